import Derived.Test.YtmeefmoblkiebaaGreatK5
import Derived.Deep.AppendLies
import Derived.Deep.CutRange
import Derived.OwnWalk
/- Contracts: the works of a machine. -/
namespace Go.Proofs.YtmeefmoblkiebaaGreat
open Go.RowKit
set_option linter.unusedVariables false
set_option linter.unusedSimpArgs false
set_option maxHeartbeats 400000
set_option maxRecDepth 100000
def hit0 (ps : List Pc) (p : Po) : Hi := ⟨0, fnd ⟨p.x, p.y⟩ ps, p.s, -1⟩
def outF (ps : List Pc) (c : Ce) : Int := fnd c ps
/-- A block that holds the works of a machine. -/
def WkAt (w : World) (g b0 : Nat) (m : Mc) : Prop :=
  g < w.heap.size ∧ w.cell? ⟨g, 0, none⟩ = some (.pointer (some ⟨b0, 0, none⟩)) ∧ (∃ bs, w.cell? ⟨g, 1, none⟩ = some (.pointer (some ⟨bs, 0, none⟩)) ∧ StAt w bs m.bd) ∧
   (∃ a cap, w.cell? ⟨g, 2, none⟩ = some (.slice a m.ins.length cap) ∧ SlAt w.heap.size w a (flat Hi.cells (m.ins.map (hit0 m.bd.ps)))) ∧
   (∃ a cap, w.cell? ⟨g, 3, none⟩ = some (.slice a m.outs.length cap) ∧ SlAt w.heap.size w a (flat inC (m.outs.map (outF m.bd.ps))))
theorem WkAt.step {w w' : World} {g b0 : Nat} {m : Mc} (h : WkAt w g b0 m) (hb : Below w.heap.size w w') : WkAt w' g b0 m := by
  obtain ⟨h1, c0, ⟨bs, c1, st⟩, ⟨a, cap, c2, s2⟩, ⟨a', cap', c3, s3⟩⟩ := h
  refine ⟨Nat.lt_of_lt_of_le h1 hb.size, ?_, ⟨bs, ?_, st.step hb⟩, ⟨a, cap, ?_, (s2.below hb (Nat.le_refl _)).mono hb.size⟩, ⟨a', cap', ?_, (s3.below hb (Nat.le_refl _)).mono hb.size⟩⟩
  · rw [hb.cell (p := ⟨g, _, none⟩) h1]; exact c0
  · rw [hb.cell (p := ⟨g, _, none⟩) h1]; exact c1
  · rw [hb.cell (p := ⟨g, _, none⟩) h1]; exact c2
  · rw [hb.cell (p := ⟨g, _, none⟩) h1]; exact c3
theorem Tryz.infoIntW : (Tryz.prog.info? 3).map (fun i => (i.zero, i.size, i.bytes)) = some (some (.int .i64 0), 1, 8) := by kernel_rfl
theorem wk_mk {w : World} {g bs b0 b1 b2 b3 : Nat} {m : Mc} {v v' : Value} (hg : g < w.heap.size) (how : w.ownsRow b1 108 4 (.slice (some ⟨g, 0, none⟩) 1 1) 1 [.pointer (some ⟨b0, 0, none⟩), .pointer (some ⟨bs, 0, none⟩), v, v']) (hor : w.ownsRow b2 161 4 v m.ins.length (flat Hi.cells (m.ins.map (hit0 m.bd.ps)))) (hou : w.ownsRow b3 3 1 v' m.outs.length (flat inC (m.outs.map (outF m.bd.ps)))) (hst : StAt w bs m.bd) : WkAt w g b0 m := by
  obtain ⟨a9, cap9, e9, sl9, -, -⟩ := own_at hor
  obtain ⟨a8, cap8, e8, sl8, -, -⟩ := own_at hou
  have k0 : w.cell? ⟨g, 0, none⟩ = some (.pointer (some ⟨b0, 0, none⟩)) := by rw [how.cellAt 0 (by omega)]; rfl
  have k1 : w.cell? ⟨g, 1, none⟩ = some (.pointer (some ⟨bs, 0, none⟩)) := by rw [how.cellAt 1 (by omega)]; rfl
  have k2 : w.cell? ⟨g, 2, none⟩ = some v := by rw [how.cellAt 2 (by omega)]; rfl
  have k3 : w.cell? ⟨g, 3, none⟩ = some v' := by rw [how.cellAt 3 (by omega)]; rfl
  exact ⟨hg, k0, ⟨bs, k1, hst⟩, ⟨a9, cap9, by rw [k2, e9], sl9⟩, ⟨a8, cap8, by rw [k3, e8], sl8⟩⟩
set_option maxHeartbeats 3200000 in
theorem worksOf_kp (b0 : Nat) (m : Mc) (w : World) (h : MP w b0 m) (hv : vMc m = true) (hok : m.ok) :
    Calls Tryz.prog 69 #[.pointer (some ⟨b0, 0, none⟩)] w fun e w' => ∃ g, e = .returned (.pointer (some ⟨g, 0, none⟩)) ∧ w.heap.size ≤ g ∧ (WkAt w' g b0 m ∧ ∀ q, KpPs w b0 m.bd q → ∀ w2, w'.grownBy w2 (some q) → WkAt w2 g b0 m) ∧ Below w.heap.size w w' := by
  obtain ⟨hvb, h60, hi1, hi6, ho1, ho8, -⟩ := vMc_parts m hv
  have HM := Lib.hid h
  have HST := Lib.hid (stageOf_kp b0 m.bd w h.bp hvb)
  have HAT := Lib.hid (fun (c : Ce) w1 (hb : Below w.heap.size w w1) => at_any b0 m.bd c w1 (HM.out.step hb).bp hok.1 (show m.bd.ps.length ≤ 10000000 by omega))
  obtain ⟨hbl, s, si, so, ⟨hbd, c3, c4⟩, -, ⟨ia, icap, rfl, hins⟩, ⟨oa, ocap, rfl, houts⟩⟩ := h
  obtain ⟨i0, hi0, hiz0, hiz1, hiz2⟩ := info_parts Tryz.infoHit
  obtain ⟨j0, hj0, hjz0, hjz1, hjz2⟩ := info_parts Tryz.infoIntW
  go_enter Tryz.func69, Tryz.ntmps69
  go_wp2_with fail
  refine HST.out.mono ?_
  rintro e w1 ⟨bs, rfl, hbs, ⟨hst, hskp⟩, hb1⟩
  have HB1 := Lib.hid hb1
  have HS1 := Lib.hid hst
  have HSK := Lib.hid hskp
  clear hskp
  have r3 : w1.cell? ⟨b0, 3, none⟩ = some (.slice ia m.ins.length icap) := by rw [hb1.cell (p := ⟨_, _, none⟩) hbl]; exact c3
  have hz1 := hb1.size
  have hbl1 : b0 < w1.heap.size := by omega
  have hown0 := own_newAt w1 #[.pointer (some ⟨b0, 0, none⟩), .pointer (some ⟨bs, 0, none⟩), .slice none 0 0, .slice none 0 0] 108 4 w1.heap.size w1.heap.size rfl (Nat.le_refl _) rfl _ rfl
  have hb0 : Below w1.heap.size w1 (w1.alloc (.cells #[.pointer (some ⟨b0, 0, none⟩), .pointer (some ⟨bs, 0, none⟩), .slice none 0 0, .slice none 0 0] 108)) := bl_alloc (Below.refl _ _)
  have hz0 : (w1.alloc (.cells #[.pointer (some ⟨b0, 0, none⟩), .pointer (some ⟨bs, 0, none⟩), .slice none 0 0, .slice none 0 0] 108)).heap.size = w1.heap.size + 1 := by simp
  clear hb1 hst HST
  go_wp2
  go_loopw [20] (fun ix wr => ∃ (k : Nat) (v : Value), k ≤ m.ins.length ∧ ix = .int .i64 k ∧ wr.ownsRow w1.heap.size 108 4 (.slice (some ⟨w1.heap.size, 0, none⟩) 1 1) 1 [.pointer (some ⟨b0, 0, none⟩), .pointer (some ⟨bs, 0, none⟩), v, .slice none 0 0] ∧ wr.ownsRow (w1.heap.size + 1) 161 4 v k (flat Hi.cells ((m.ins.take k).map (hit0 m.bd.ps))) ∧ w1.heap.size + 1 ≤ wr.heap.size ∧ Below w1.heap.size w1 wr) (fun ix _ => m.ins.length - (intOf ix).toNat)
  case atStart => exact ⟨0, .slice none 0 0, by omega, rfl, hown0, World.ownsRow_nil _ _ _ _, by omega, hb0⟩
  case round =>
    clear hown0 hb0 hz0 r3
    obtain ⟨k, v, hk, rfl, how, hor, hz, hb⟩ := hrel
    have hbW := bl_trans HB1.out hb
    by_cases hlt : k < m.ins.length
    · obtain ⟨b, off, rfl, hbi, hat⟩ := pos_get hins hlt
      unfold PoAt at hat
      obtain ⟨a0, a1, a2⟩ := hat
      have q0 : wr.cell? ⟨b, off + k * 3, none⟩ = some (.int .i8 m.ins[k].x) := by rw [hbW.cell (p := ⟨_, _, none⟩) hbi]; exact a0
      have q1 : wr.cell? ⟨b, off + k * 3 + 1, none⟩ = some (.int .i8 m.ins[k].y) := by rw [hbW.cell (p := ⟨_, _, none⟩) hbi]; exact a1
      have q2 : wr.cell? ⟨b, off + k * 3 + 2, none⟩ = some (.int .i8 m.ins[k].s) := by rw [hbW.cell (p := ⟨_, _, none⟩) hbi]; exact a2
      have ok2 := (hok.2.1 k hlt).2.2
      have s1 : IntKind.i64.wrap m.ins[k].s = m.ins[k].s := by rw [IntKind.wrap_i64]; unfold I8 at ok2; omega
      have HTK : Hid ((m.ins.take (k + 1)).map (hit0 m.bd.ps) = (m.ins.take k).map (hit0 m.bd.ps) ++ [hit0 m.bd.ps m.ins[k]]) := Lib.hid (by rw [List.take_succ_eq_append_getElem hlt, List.map_append]; rfl)
      obtain ⟨P, hP⟩ : ∃ P, P = m.ins[k] := ⟨_, rfl⟩
      rw [← hP] at q0 q1 q2 s1 HTK
      have hX3 := BX3.new wr (.int .i8 P.x) (.int .i8 P.y) (.int .i8 P.s) 127
      have hal : Below wr.heap.size wr (wr.alloc (.cells #[.int .i8 P.x, .int .i8 P.y, .int .i8 P.s] 127)) := bl_alloc (Below.refl _ _)
      clear hP ok2 a0 a1 a2
      go_wp2_with fail
      obtain ⟨w2, hw2⟩ : ∃ w2, w2 = wr.alloc (.cells #[.int .i8 P.x, .int .i8 P.y, .int .i8 P.s] 127) := ⟨_, rfl⟩
      rw [← hw2] at hal hX3 ⊢
      obtain ⟨gp, hgp⟩ : ∃ gp, gp = wr.heap.size := ⟨_, rfl⟩
      have how2 := own_below how hal (Nat.le_refl _)
      have hor2 := own_below hor hal (Nat.le_refl _)
      have HBW2 := Lib.hid (bl_trans hbW hal)
      have HBB2 := Lib.hid (bl_trans hb hal)
      have hz2 := hal.size
      rw [← hgp] at hX3 ⊢
      have HNP : Hid (some gp ≠ v.ownBlock) := Lib.hid (fun e => by have := (hor.lt gp e.symm).2; omega)
      have HNG : Hid (some w1.heap.size ≠ v.ownBlock) := Lib.hid (fun e => by have := (hor.lt _ e.symm).1; omega)
      have hgp1 : w1.heap.size < gp := by omega
      have HGP := Lib.hid hgp
      clear hal hw2 q0 q1 q2 how hor hb hbW hgp
      obtain ⟨hp2, p0, p1, p2⟩ := hX3
      have e2 : w2.cell? ⟨w1.heap.size, 2, none⟩ = some v := by rw [how2.cellAt 2 (by omega)]; rfl
      have e2f : w2.frozen? ⟨w1.heap.size, 2, none⟩ = false := how2.frozenAt 2
      have hgl : w1.heap.size < w2.heap.size := by omega
      have HOW := Lib.hid how2
      have HOR := Lib.hid hor2
      have HFD := Lib.hid (fun w3 (hb3 : Below w.heap.size w w3) => HAT.out ⟨P.x, P.y⟩ w3 hb3)
      obtain ⟨fk, hfk⟩ : ∃ fk, fk = fnd ⟨P.x, P.y⟩ m.bd.ps := ⟨_, rfl⟩
      rw [← hfk] at HFD
      have HH0 : Hid (Hi.cells (hit0 m.bd.ps P) = [.int .i64 0, .int .i64 fk, .int .i64 P.s, .int .i64 (-1)]) := Lib.hid (by rw [hfk]; rfl)
      clear how2 hor2 hfk
      have hk32 : (k + 1) * 32 ≤ 140737488355328 := by omega
      go_upto_region 5 with fail
      refine wp_region_T 0 19 (fun w' => w'.cell? ⟨w1.heap.size, 2, none⟩ = some v ∧ w'.cell? ⟨gp, 0, none⟩ = some (.int .i8 P.x) ∧ w'.cell? ⟨gp, 1, none⟩ = some (.int .i8 P.y) ∧ w'.cell? ⟨gp, 2, none⟩ = some (.int .i8 P.s)) (by kernel_rfl) ⟨e2, p0, p1, p2⟩ (fun hHeld => ?_)
      obtain ⟨Y0, hY0⟩ : ∃ Y, Y = w2.drew := ⟨_, rfl⟩
      have b20 : Below w2.heap.size w2 w2.drew := bl_drew (Below.refl _ _)
      have HOWY := Lib.hid (own_below HOW.out b20 (Nat.le_refl _))
      have HORY := Lib.hid (own_below HOR.out b20 (Nat.le_refl _))
      have HBWY := Lib.hid (bl_trans HBW2.out b20)
      have HBBY := Lib.hid (bl_trans HBB2.out b20)
      have hzY : w2.heap.size ≤ w2.drew.heap.size := b20.size
      rw [← hY0] at HOWY HORY HBWY HBBY hzY hHeld ⊢
      have hgpY : gp < Y0.heap.size := by omega
      have hgY : w1.heap.size < Y0.heap.size := by omega
      clear hY0 b20 e2 p0 p1 p2 HOW HOR HBW2 HBB2
      (refine' wpAnyT_take 12 0 (oi := ?oi1) (v := ?v1) ?hi1 (by kernel_rfl) (by kernel_rfl) (by kernel_rfl) (by kernel_rfl) (by kernel_rfl) (by kernel_rfl) ?hQ1 ?hy1 (by assumption) ?rest1; (case hi1 => simp only [List.getElem?_toArray, List.getElem?_cons_zero, List.getElem?_cons_succ]; rfl); (case hQ1 => exact fun _ _ _ h => h); (case hy1 => refine Or.inl ⟨by rfl, ?_⟩; intro wz hSw; (try dsimp only at hSw); go_simp; try with_reducible rfl); try simp only [Act.put, List.setIfInBounds_toArray, List.set_cons_zero, List.set_cons_succ])
      (refine' wpAnyT_take 12 1 (oi := ?oi2) (v := ?v2) ?hi2 (by kernel_rfl) (by kernel_rfl) (by kernel_rfl) (by kernel_rfl) (by kernel_rfl) (by kernel_rfl) ?hQ2 ?hy2 (by assumption) ?rest2; (case hi2 => simp only [List.getElem?_toArray, List.getElem?_cons_zero, List.getElem?_cons_succ]; rfl); (case hQ2 => exact fun _ _ _ h => h); (case hy2 => refine Or.inl ⟨by rfl, ?_⟩; intro wz hSw; (try dsimp only at hSw); go_simp; try with_reducible rfl); try simp only [Act.put, List.setIfInBounds_toArray, List.set_cons_zero, List.set_cons_succ])
      (refine' wpAnyT_take 12 2 (oi := ?oi3) (v := ?v3) ?hi3 (by kernel_rfl) (by kernel_rfl) (by kernel_rfl) (by kernel_rfl) (by kernel_rfl) (by kernel_rfl) ?hQ3 ?hy3 (by assumption) ?rest3; (case hi3 => simp only [List.getElem?_toArray, List.getElem?_cons_zero, List.getElem?_cons_succ]; rfl); (case hQ3 => exact fun _ _ _ h => h); (case hy3 => refine Or.inl ⟨by rfl, ?_⟩; intro wz hSw; (try dsimp only at hSw); go_simp; try with_reducible rfl); try simp only [Act.put, List.setIfInBounds_toArray, List.set_cons_zero, List.set_cons_succ])
      (refine' wpAnyT_take 12 3 (oi := ?oi4) (v := ?v4) ?hi4 (by kernel_rfl) (by kernel_rfl) (by kernel_rfl) (by kernel_rfl) (by kernel_rfl) (by kernel_rfl) ?hQ4 ?hy4 (by assumption) ?rest4; (case hi4 => simp only [List.getElem?_toArray, List.getElem?_cons_zero, List.getElem?_cons_succ]; rfl); (case hQ4 => exact fun _ _ _ h => h); (case hy4 => refine Or.inl ⟨by rfl, ?_⟩; intro wz hSw; (try dsimp only at hSw); go_simp; try with_reducible rfl); try simp only [Act.put, List.setIfInBounds_toArray, List.set_cons_zero, List.set_cons_succ])
      (refine' wpAnyT_take 12 4 (oi := ?oi5) (v := ?v5) ?hi5 (by kernel_rfl) (by kernel_rfl) (by kernel_rfl) (by kernel_rfl) (by kernel_rfl) (by kernel_rfl) ?hQ5 ?hy5 (by assumption) ?rest5; (case hi5 => simp only [List.getElem?_toArray, List.getElem?_cons_zero, List.getElem?_cons_succ]; rfl); (case hQ5 => exact fun _ _ _ h => h); (case hy5 => refine Or.inl ⟨by rfl, ?_⟩; intro wz hSw; (try dsimp only at hSw); go_simp; try with_reducible rfl); try simp only [Act.put, List.setIfInBounds_toArray, List.set_cons_zero, List.set_cons_succ])
      (refine' wpAnyT_take 12 5 (oi := ?oi6) (v := ?v6) ?hi6 (by kernel_rfl) (by kernel_rfl) (by kernel_rfl) (by kernel_rfl) (by kernel_rfl) (by kernel_rfl) ?hQ6 ?hy6 (by assumption) ?rest6; (case hi6 => simp only [List.getElem?_toArray, List.getElem?_cons_zero, List.getElem?_cons_succ]; rfl); (case hQ6 => exact fun _ _ _ h => h); (case hy6 => refine Or.inl ⟨by rfl, ?_⟩; intro wz hSw; (try dsimp only at hSw); go_simp; try with_reducible rfl); try simp only [Act.put, List.setIfInBounds_toArray, List.set_cons_zero, List.set_cons_succ])
      (refine' wpAnyT_take 12 6 (oi := ?oi7) (v := ?v7) ?hi7 (by kernel_rfl) (by kernel_rfl) (by kernel_rfl) (by kernel_rfl) (by kernel_rfl) (by kernel_rfl) ?hQ7 ?hy7 (by assumption) ?rest7; (case hi7 => simp only [List.getElem?_toArray, List.getElem?_cons_zero, List.getElem?_cons_succ]; rfl); (case hQ7 => exact fun _ _ _ h => h); (case hy7 => refine Or.inl ⟨by rfl, ?_⟩; intro wz hSw; (try dsimp only at hSw); go_simp; try with_reducible rfl); try simp only [Act.put, List.setIfInBounds_toArray, List.set_cons_zero, List.set_cons_succ])
      (refine' wpAnyT_take 12 7 (oi := ?oi8) (v := ?v8) ?hi8 (by kernel_rfl) (by kernel_rfl) (by kernel_rfl) (by kernel_rfl) (by kernel_rfl) (by kernel_rfl) ?hQ8 ?hy8 (by assumption) ?rest8; (case hi8 => simp only [List.getElem?_toArray, List.getElem?_cons_zero, List.getElem?_cons_succ]; rfl); (case hQ8 => exact fun _ _ _ h => h); (case hy8 => refine Or.inl ⟨by rfl, ?_⟩; intro wz hSw; (try dsimp only at hSw); go_simp; try with_reducible rfl); try simp only [Act.put, List.setIfInBounds_toArray, List.set_cons_zero, List.set_cons_succ])
      (refine' wpAnyT_take 12 8 (oi := ?oi9) (v := ?v9) ?hi9 (by kernel_rfl) (by kernel_rfl) (by kernel_rfl) (by kernel_rfl) (by kernel_rfl) (by kernel_rfl) ?hQ9 ?hy9 (by assumption) ?rest9; (case hi9 => simp only [List.getElem?_toArray, List.getElem?_cons_zero, List.getElem?_cons_succ]; rfl); (case hQ9 => exact fun _ _ _ h => h); (case hy9 => refine Or.inl ⟨by rfl, ?_⟩; intro wz hSw; (try dsimp only at hSw); go_simp; try with_reducible rfl); try simp only [Act.put, List.setIfInBounds_toArray, List.set_cons_zero, List.set_cons_succ])
      (refine' wpAnyT_take 12 9 (oi := ?oi10) (v := ?v10) ?hi10 (by kernel_rfl) (by kernel_rfl) (by kernel_rfl) (by kernel_rfl) (by kernel_rfl) (by kernel_rfl) ?hQ10 ?hy10 (by assumption) ?rest10; (case hi10 => simp only [List.getElem?_toArray, List.getElem?_cons_zero, List.getElem?_cons_succ]; rfl); (case hQ10 => exact fun _ _ _ h => h); (case hy10 => refine Or.inl ⟨by rfl, ?_⟩; intro wz hSw; (try dsimp only at hSw); go_simp; try with_reducible rfl); try simp only [Act.put, List.setIfInBounds_toArray, List.set_cons_zero, List.set_cons_succ])
      (refine' wpAnyT_take 12 11 (oi := ?oi11) (v := ?v11) ?hi11 (by kernel_rfl) (by kernel_rfl) (by kernel_rfl) (by kernel_rfl) (by kernel_rfl) (by kernel_rfl) ?hQ11 ?hy11 (by assumption) ?rest11; (case hi11 => simp only [List.getElem?_toArray, List.getElem?_cons_zero, List.getElem?_cons_succ]; rfl); (case hQ11 => exact fun _ _ _ h => h); (case hy11 => refine Or.inl ⟨by rfl, ?_⟩; intro wz hSw; (try dsimp only at hSw); go_simp; try with_reducible rfl); try simp only [Act.put, List.setIfInBounds_toArray, List.set_cons_zero, List.set_cons_succ])
      (refine' wpAnyT_take 12 12 (oi := ?oi12) (v := ?v12) ?hi12 (by kernel_rfl) (by kernel_rfl) (by kernel_rfl) (by kernel_rfl) (by kernel_rfl) (by kernel_rfl) ?hQ12 ?hy12 (by assumption) ?rest12; (case hi12 => simp only [List.getElem?_toArray, List.getElem?_cons_zero, List.getElem?_cons_succ]; rfl); (case hQ12 => exact fun _ _ _ h => h); (case hy12 => refine Or.inl ⟨by rfl, ?_⟩; intro wz hSw; (try dsimp only at hSw); go_simp; try with_reducible rfl); try simp only [Act.put, List.setIfInBounds_toArray, List.set_cons_zero, List.set_cons_succ])
      (refine' wpAnyT_take 12 13 (oi := ?oi13) (v := ?v13) ?hi13 (by kernel_rfl) (by kernel_rfl) (by kernel_rfl) (by kernel_rfl) (by kernel_rfl) (by kernel_rfl) ?hQ13 ?hy13 (by assumption) ?rest13; (case hi13 => simp only [List.getElem?_toArray, List.getElem?_cons_zero, List.getElem?_cons_succ]; rfl); (case hQ13 => exact fun _ _ _ h => h); (case hy13 => refine Or.inl ⟨by rfl, ?_⟩; intro wz hSw; (try dsimp only at hSw); go_simp; try with_reducible rfl); try simp only [Act.put, List.setIfInBounds_toArray, List.set_cons_zero, List.set_cons_succ])
      obtain ⟨e2, p0, p1, p2⟩ := hHeld
      refine wpAnyT_ready (rs := [10]) (by kernel_rfl) (by simp) ?_
      (refine' AllReadyT.cons (o := ?o28) ?ho28 (fun K hK => ?step28) AllReadyT.nil; (case ho28 => simp only [List.getElem?_toArray, List.getElem?_cons_zero, List.getElem?_cons_succ]; rfl))
      go_simp
      refine (HFD.out _ HBWY.out).mono ?_
      rintro e Y1 ⟨rfl, ba⟩
      obtain ⟨hca, hfa⟩ := bcell ba
      have HOW1 := Lib.hid (own_below HOWY.out ba (Nat.le_refl _))
      have HOR1 := Lib.hid (own_below HORY.out ba (Nat.le_refl _))
      have HBW1 := Lib.hid (bl_trans HBWY.out ba)
      have HBB1 := Lib.hid (bl_trans HBBY.out ba)
      have hz1' := ba.size
      have f2 : Y1.cell? ⟨w1.heap.size, 2, none⟩ = some v := by rw [hca _ _ hgY]; exact e2
      have f0 : Y1.cell? ⟨gp, 0, none⟩ = some (.int .i8 P.x) := by rw [hca _ _ hgpY]; exact p0
      have f1 : Y1.cell? ⟨gp, 1, none⟩ = some (.int .i8 P.y) := by rw [hca _ _ hgpY]; exact p1
      have f3 : Y1.cell? ⟨gp, 2, none⟩ = some (.int .i8 P.s) := by rw [hca _ _ hgpY]; exact p2
      refine hK.out _ _ (fun _ _ => ⟨f2, f0, f1, f3⟩) (fun hHd => ?_)
      have hHeld := hHd (by decide) (by decide)
      clear hHd
      have hgp1Y : gp < Y1.heap.size := by omega
      have hg1Y : w1.heap.size < Y1.heap.size := by omega
      clear hK K hca hfa ba e2 p0 p1 p2 f0 f1 f2 f3 HOWY HORY HBWY HBBY
      try simp only [Act.put, List.setIfInBounds_toArray, List.set_cons_zero, List.set_cons_succ]
      (refine' wpAnyT_take 12 14 (oi := ?oi14) (v := ?v14) ?hi14 (by kernel_rfl) (by kernel_rfl) (by kernel_rfl) (by kernel_rfl) (by kernel_rfl) (by kernel_rfl) ?hQ14 ?hy14 (by assumption) ?rest14; (case hi14 => simp only [List.getElem?_toArray, List.getElem?_cons_zero, List.getElem?_cons_succ]; rfl); (case hQ14 => exact fun _ _ _ h => h); (case hy14 => refine Or.inl ⟨by rfl, ?_⟩; intro wz hSw; (try dsimp only at hSw); go_simp; try with_reducible rfl); try simp only [Act.put, List.setIfInBounds_toArray, List.set_cons_zero, List.set_cons_succ])
      refine wpAnyT_ready (rs := [15]) (by kernel_rfl) (by simp) ?_
      (refine' AllReadyT.cons (o := ?o29) ?ho29 (fun K hK => ?step29) AllReadyT.nil; (case ho29 => simp only [List.getElem?_toArray, List.getElem?_cons_zero, List.getElem?_cons_succ]; rfl))
      go_simp
      have o1 := World.news_of_block (cs := #[.int .i64 0, .int .i64 fk, .int .i64 P.s, .int .i64 (-1)]) (t := 161) (fr := (0, 0)) (heap_alloc_new Y1 (.cells #[.int .i64 0, .int .i64 fk, .int .i64 P.s, .int .i64 (-1)] 161))
      have ba2 : Below Y1.heap.size Y1 (Y1.alloc (.cells #[.int .i64 0, .int .i64 fk, .int .i64 P.s, .int .i64 (-1)] 161)) := bl_alloc (Below.refl _ _)
      have HOW2 := Lib.hid (own_below HOW1.out ba2 (Nat.le_refl _))
      have HOR2 := Lib.hid (own_below HOR1.out ba2 (Nat.le_refl _))
      have HBW2 := Lib.hid (bl_trans HBW1.out ba2)
      have HBB2 := Lib.hid (bl_trans HBB1.out ba2)
      obtain ⟨f2, f0, f1, f3⟩ := hHeld
      have S2 : (Y1.alloc (.cells #[.int .i64 0, .int .i64 fk, .int .i64 P.s, .int .i64 (-1)] 161)).cell? ⟨w1.heap.size, 2, none⟩ = some v ∧ (Y1.alloc (.cells #[.int .i64 0, .int .i64 fk, .int .i64 P.s, .int .i64 (-1)] 161)).cell? ⟨gp, 0, none⟩ = some (.int .i8 P.x) ∧ (Y1.alloc (.cells #[.int .i64 0, .int .i64 fk, .int .i64 P.s, .int .i64 (-1)] 161)).cell? ⟨gp, 1, none⟩ = some (.int .i8 P.y) ∧ (Y1.alloc (.cells #[.int .i64 0, .int .i64 fk, .int .i64 P.s, .int .i64 (-1)] 161)).cell? ⟨gp, 2, none⟩ = some (.int .i8 P.s) :=
        ⟨by rw [cell_alloc _ _ _ _ hg1Y]; exact f2, by rw [cell_alloc _ _ _ _ hgp1Y]; exact f0, by rw [cell_alloc _ _ _ _ hgp1Y]; exact f1, by rw [cell_alloc _ _ _ _ hgp1Y]; exact f3⟩
      have hzY2 : Y1.heap.size + 1 = (Y1.alloc (.cells #[.int .i64 0, .int .i64 fk, .int .i64 P.s, .int .i64 (-1)] 161)).heap.size := by simp
      refine hK.out _ _ (fun _ _ => S2) (fun hHd => ?_)
      have hHeld := hHd (by decide) (by decide)
      clear hHd
      obtain ⟨Y2, hY2⟩ : ∃ Y, Y = Y1.alloc (.cells #[.int .i64 0, .int .i64 fk, .int .i64 P.s, .int .i64 (-1)] 161) := ⟨_, rfl⟩
      rw [← hY2] at o1 HOW2 HOR2 HBW2 HBB2 hzY2 hHeld ⊢
      clear hK K S2 hY2 ba2 f0 f1 f2 f3 HOW1 HOR1 HBW1 HBB1
      try simp only [Act.put, List.setIfInBounds_toArray, List.set_cons_zero, List.set_cons_succ]
      refine wpAnyT_ready (rs := [16]) (by kernel_rfl) (by simp) ?_
      (refine' AllReadyT.cons (o := ?o30) ?ho30 (fun K hK => ?step30) AllReadyT.nil; (case ho30 => simp only [List.getElem?_toArray, List.getElem?_cons_zero, List.getElem?_cons_succ]; rfl))
      refine step_append_lies _ (by rfl) _ _ _ (by rfl) (w1.heap.size + 1) 161 i0 _ 4 32 Tryz.underlying105 hi0 hiz0 hiz1 hiz2 rfl (by omega) v k (flat Hi.cells ((m.ins.take k).map (hit0 m.bd.ps))) (by rfl) HOR2.out ⟨Y1.heap.size, 0, none⟩ 1 1 [.int .i64 0, .int .i64 fk, .int .i64 P.s, .int .i64 (-1)] (by rfl) (by rfl) o1 (Hi.one ⟨0, fk, P.s, -1⟩) (by omega) (by unfold maxLen; omega) hk32 (by omega) _ rfl ?_
      intro gg cap3 Y3 hown3 hgrow hat3 hlt3
      obtain ⟨f2, f0, f1, f3⟩ := hHeld
      have S3 : Y3.cell? ⟨w1.heap.size, 2, none⟩ = some v ∧ Y3.cell? ⟨gp, 0, none⟩ = some (.int .i8 P.x) ∧ Y3.cell? ⟨gp, 1, none⟩ = some (.int .i8 P.y) ∧ Y3.cell? ⟨gp, 2, none⟩ = some (.int .i8 P.s) :=
        ⟨hgrow.cell f2 HNG.out, hgrow.cell f0 HNP.out, hgrow.cell f1 HNP.out, hgrow.cell f3 HNP.out⟩
      have how3 := own_kept HOW2.out hgrow (fun q hq e => HNG.out (by cases hq; exact e))
      have hb3 : Below w1.heap.size w1 Y3 := bl_grown HBB2.out hgrow (fun q hq => by have := (HOR2.out.lt q hq).1; omega)
      refine hK.out _ _ (fun _ _ => S3) (fun hHd => ?_)
      have hHeld := hHd (by decide) (by decide)
      clear hK K S3 f0 f1 f2 f3 hHd
      try simp only [Act.put, List.setIfInBounds_toArray, List.set_cons_zero, List.set_cons_succ]
      (refine' wpAnyT_take 12 17 (oi := ?oi15) (v := ?v15) ?hi15 (by kernel_rfl) (by kernel_rfl) (by kernel_rfl) (by kernel_rfl) (by kernel_rfl) (by kernel_rfl) ?hQ15 ?hy15 (by assumption) ?rest15; (case hi15 => simp only [List.getElem?_toArray, List.getElem?_cons_zero, List.getElem?_cons_succ]; rfl); (case hQ15 => exact fun _ _ _ h => h); (case hy15 => refine Or.inl ⟨by rfl, ?_⟩; intro wz hSw; (try dsimp only at hSw); go_simp; try with_reducible rfl); try simp only [Act.put, List.setIfInBounds_toArray, List.set_cons_zero, List.set_cons_succ])
      (refine' wpAnyT_take 12 18 (oi := ?oi16) (v := ?v16) ?hi16 (by kernel_rfl) (by kernel_rfl) (by kernel_rfl) (by kernel_rfl) (by kernel_rfl) (by kernel_rfl) ?hQ16 ?hy16 (by assumption) ?rest16; (case hi16 => simp only [List.getElem?_toArray, List.getElem?_cons_zero, List.getElem?_cons_succ]; rfl); (case hQ16 => exact fun _ _ _ h => h); (case hy16 => refine Or.inl ⟨by rfl, ?_⟩; intro wz hSw; (try dsimp only at hSw); go_simp; try with_reducible rfl); try simp only [Act.put, List.setIfInBounds_toArray, List.set_cons_zero, List.set_cons_succ])
      have e3 : Y3.cell? ⟨w1.heap.size, 2, none⟩ = some v := by rw [how3.cellAt 2 (by omega)]; rfl
      have e3f : Y3.frozen? ⟨w1.heap.size, 2, none⟩ = false := how3.frozenAt 2
      refine wpAnyT_ready (rs := [19]) (by kernel_rfl) (by simp) ?_
      (refine' AllReadyT.cons (o := ?o31) ?ho31 (fun K hK => ?step31) AllReadyT.nil; (case ho31 => simp only [List.getElem?_toArray, List.getElem?_cons_zero, List.getElem?_cons_succ]; rfl))
      go_simp
      refine hK.out _ _ (fun _ h => absurd h (by decide)) (fun _ => ?_)
      clear hK K hHeld
      try simp only [Act.put, List.setIfInBounds_toArray, List.set_cons_zero, List.set_cons_succ]
      refine wpAnyT_done (by kernel_rfl) ?_ _
      have how4 := (how3.stored 2 (.slice (some ⟨gg, 0, none⟩) (k + 1) cap3)).1
      have hg4 := (how3.stored 2 (.slice (some ⟨gg, 0, none⟩) (k + 1) cap3)).2
      have hor4 := own_kept hown3 hg4 (by intro q hq e; have h8 := (hown3.lt q hq).1; cases e; omega)
      have hb4 : Below w1.heap.size w1 (Y3.setCell ⟨w1.heap.size, 2, none⟩ (.slice (some ⟨gg, 0, none⟩) (k + 1) cap3)) := bl_set hb3 (Nat.le_refl _) _
      have hz4 : w1.heap.size + 1 ≤ (Y3.setCell ⟨w1.heap.size, 2, none⟩ (.slice (some ⟨gg, 0, none⟩) (k + 1) cap3)).heap.size := by have := hgrow.size; simp; omega
      have hcells : flat Hi.cells ((m.ins.take k).map (hit0 m.bd.ps)) ++ [.int .i64 0, .int .i64 fk, .int .i64 P.s, .int .i64 (-1)] = flat Hi.cells ((m.ins.take (k + 1)).map (hit0 m.bd.ps)) := by rw [HTK.out, flat_append, flat_cons, flat_nil, List.append_nil, HH0.out]
      rw [hcells] at hor4
      clear how3 hown3 hgrow hat3 hlt3 hg4 e3 e3f
      go_wp2
      go_roundw
      case rel => exact ⟨k + 1, _, by omega, by go_num, how4, hor4, hz4, hb4⟩
      case measure => simp [intOf]; omega
    · have hkn : k = m.ins.length := by omega
      subst hkn
      rw [List.take_length] at hor
      have r4 : wr.cell? ⟨b0, 4, none⟩ = some (.slice oa m.outs.length ocap) := by rw [hbW.cell (p := ⟨_, _, none⟩) hbl]; exact c4
      obtain ⟨W, hW⟩ : ∃ W, W = wr := ⟨_, rfl⟩
      rw [← hW] at how hor hz hb hbW r4 ⊢
      clear hW
      go_wp2
      go_loopw [49] (fun ix wr => ∃ (k : Nat) (v' : Value), k ≤ m.outs.length ∧ ix = .int .i64 k ∧ wr.ownsRow w1.heap.size 108 4 (.slice (some ⟨w1.heap.size, 0, none⟩) 1 1) 1 [.pointer (some ⟨b0, 0, none⟩), .pointer (some ⟨bs, 0, none⟩), v, v'] ∧ wr.ownsRow (w1.heap.size + 1) 161 4 v m.ins.length (flat Hi.cells (m.ins.map (hit0 m.bd.ps))) ∧ wr.ownsRow W.heap.size 3 1 v' k (flat inC ((m.outs.take k).map (outF m.bd.ps))) ∧ W.heap.size ≤ wr.heap.size ∧ Below w1.heap.size w1 wr ∧ (∀ q, v.ownBlock = some q → q < W.heap.size)) (fun ix _ => m.outs.length - (intOf ix).toNat)
      case atStart => exact ⟨0, .slice none 0 0, by omega, rfl, how, hor, World.ownsRow_nil _ _ _ _, Nat.le_refl _, hb, fun q hq => (hor.lt q hq).2⟩
      case round =>
        clear how hor hb hbW r4
        obtain ⟨k, v', hk, rfl, how, hor, hou, hzW, hb, hvW⟩ := hrel
        have hbW := bl_trans HB1.out hb
        by_cases hlt : k < m.outs.length
        · obtain ⟨b, off, rfl, hbi, hat⟩ := ces_get houts hlt
          have q0 : wr.cell? ⟨b, off + k * 2, none⟩ = some (.int .i8 m.outs[k].x) := by rw [hbW.cell (p := ⟨_, _, none⟩) hbi]; exact hat.1
          have q1 : wr.cell? ⟨b, off + k * 2 + 1, none⟩ = some (.int .i8 m.outs[k].y) := by rw [hbW.cell (p := ⟨_, _, none⟩) hbi]; exact hat.2
          have HTK : Hid ((m.outs.take (k + 1)).map (outF m.bd.ps) = (m.outs.take k).map (outF m.bd.ps) ++ [outF m.bd.ps m.outs[k]]) := Lib.hid (by rw [List.take_succ_eq_append_getElem hlt, List.map_append]; rfl)
          obtain ⟨P, hP⟩ : ∃ P, P = m.outs[k] := ⟨_, rfl⟩
          rw [← hP] at q0 q1 HTK
          have hX3 := sl_new wr #[.int .i8 P.x, .int .i8 P.y] 47
          have hal : Below wr.heap.size wr (wr.alloc (.cells #[.int .i8 P.x, .int .i8 P.y] 47)) := bl_alloc (Below.refl _ _)
          have hsz : (wr.alloc (.cells #[.int .i8 P.x, .int .i8 P.y] 47)).heap.size = wr.heap.size + 1 := by simp
          clear hP hat
          go_wp2_with fail
          obtain ⟨w2, hw2⟩ : ∃ w2, w2 = wr.alloc (.cells #[.int .i8 P.x, .int .i8 P.y] 47) := ⟨_, rfl⟩
          rw [← hw2] at hal hX3 hsz ⊢
          obtain ⟨gp, hgp⟩ : ∃ gp, gp = wr.heap.size := ⟨_, rfl⟩
          have how2 := own_below how hal (Nat.le_refl _)
          have hor2 := own_below hor hal (Nat.le_refl _)
          have hou2 := own_below hou hal (Nat.le_refl _)
          have HBW2 := Lib.hid (bl_trans hbW hal)
          have HBB2 := Lib.hid (bl_trans hb hal)
          have hz2 := hal.size
          rw [← hgp] at hX3 hsz ⊢
          have HNP : Hid (some gp ≠ v'.ownBlock) := Lib.hid (fun e => by have := (hou.lt gp e.symm).2; omega)
          have HNG : Hid (some w1.heap.size ≠ v'.ownBlock) := Lib.hid (fun e => by have := (hou.lt _ e.symm).1; omega)
          have HNV : Hid (∀ q, v.ownBlock = some q → some q ≠ v'.ownBlock) := Lib.hid (fun q hq e => by have := (hou.lt q e.symm).1; have := hvW q hq; omega)
          have hgp1 : w1.heap.size < gp := by omega
          have p0 : w2.cell? ⟨gp, 0, none⟩ = some (.int .i8 P.x) := by
            obtain ⟨b9, off9, h1, h2, h3⟩ := hX3 0 (by simp)
            simp only [Option.some.injEq, Addr.mk.injEq, and_true] at h1
            obtain ⟨rfl, rfl⟩ := h1
            exact h3
          have p1 : w2.cell? ⟨gp, 1, none⟩ = some (.int .i8 P.y) := by
            obtain ⟨b9, off9, h1, h2, h3⟩ := hX3 1 (by simp)
            simp only [Option.some.injEq, Addr.mk.injEq, and_true] at h1
            obtain ⟨rfl, rfl⟩ := h1
            exact h3
          have HGP := Lib.hid hgp
          have hp2 : gp < w2.heap.size := by omega
          clear hal hw2 q0 q1 how hor hou hb hbW hgp hX3 hsz
          have e2 : w2.cell? ⟨w1.heap.size, 3, none⟩ = some v' := by rw [how2.cellAt 3 (by omega)]; rfl
          have hgl : w1.heap.size < w2.heap.size := by omega
          have HOW := Lib.hid how2
          have HOR := Lib.hid hor2
          have HOU := Lib.hid hou2
          have HFD := Lib.hid (fun w3 (hb3 : Below w.heap.size w w3) => HAT.out ⟨P.x, P.y⟩ w3 hb3)
          obtain ⟨fk, hfk⟩ : ∃ fk, fk = fnd ⟨P.x, P.y⟩ m.bd.ps := ⟨_, rfl⟩
          rw [← hfk] at HFD
          have HH0 : Hid (outF m.bd.ps P = fk) := Lib.hid (by rw [hfk]; rfl)
          clear how2 hor2 hou2 hfk
          have hk32 : (k + 1) * 8 ≤ 140737488355328 := by omega
          go_upto_region 10 with fail
          refine wp_region_T 0 14 (fun w' => w'.cell? ⟨w1.heap.size, 3, none⟩ = some v' ∧ w'.cell? ⟨gp, 0, none⟩ = some (.int .i8 P.x) ∧ w'.cell? ⟨gp, 1, none⟩ = some (.int .i8 P.y)) (by kernel_rfl) ⟨e2, p0, p1⟩ (fun hHeld => ?_)
          obtain ⟨Y0, hY0⟩ : ∃ Y, Y = w2.drew := ⟨_, rfl⟩
          have b20 : Below w2.heap.size w2 w2.drew := bl_drew (Below.refl _ _)
          have HOWY := Lib.hid (own_below HOW.out b20 (Nat.le_refl _))
          have HORY := Lib.hid (own_below HOR.out b20 (Nat.le_refl _))
          have HOUY := Lib.hid (own_below HOU.out b20 (Nat.le_refl _))
          have HBWY := Lib.hid (bl_trans HBW2.out b20)
          have HBBY := Lib.hid (bl_trans HBB2.out b20)
          have hzY : w2.heap.size ≤ w2.drew.heap.size := b20.size
          rw [← hY0] at HOWY HORY HOUY HBWY HBBY hzY hHeld ⊢
          have hgpY : gp < Y0.heap.size := by omega
          have hgY : w1.heap.size < Y0.heap.size := by omega
          clear hY0 b20 e2 p0 p1 HOW HOR HOU HBW2 HBB2
          (refine' wpAnyT_take 12 0 (oi := ?oi17) (v := ?v17) ?hi17 (by kernel_rfl) (by kernel_rfl) (by kernel_rfl) (by kernel_rfl) (by kernel_rfl) (by kernel_rfl) ?hQ17 ?hy17 (by assumption) ?rest17; (case hi17 => simp only [List.getElem?_toArray, List.getElem?_cons_zero, List.getElem?_cons_succ]; rfl); (case hQ17 => exact fun _ _ _ h => h); (case hy17 => refine Or.inl ⟨by rfl, ?_⟩; intro wz hSw; (try dsimp only at hSw); go_simp; try with_reducible rfl); try simp only [Act.put, List.setIfInBounds_toArray, List.set_cons_zero, List.set_cons_succ])
          (refine' wpAnyT_take 12 1 (oi := ?oi18) (v := ?v18) ?hi18 (by kernel_rfl) (by kernel_rfl) (by kernel_rfl) (by kernel_rfl) (by kernel_rfl) (by kernel_rfl) ?hQ18 ?hy18 (by assumption) ?rest18; (case hi18 => simp only [List.getElem?_toArray, List.getElem?_cons_zero, List.getElem?_cons_succ]; rfl); (case hQ18 => exact fun _ _ _ h => h); (case hy18 => refine Or.inl ⟨by rfl, ?_⟩; intro wz hSw; (try dsimp only at hSw); go_simp; try with_reducible rfl); try simp only [Act.put, List.setIfInBounds_toArray, List.set_cons_zero, List.set_cons_succ])
          (refine' wpAnyT_take 12 2 (oi := ?oi19) (v := ?v19) ?hi19 (by kernel_rfl) (by kernel_rfl) (by kernel_rfl) (by kernel_rfl) (by kernel_rfl) (by kernel_rfl) ?hQ19 ?hy19 (by assumption) ?rest19; (case hi19 => simp only [List.getElem?_toArray, List.getElem?_cons_zero, List.getElem?_cons_succ]; rfl); (case hQ19 => exact fun _ _ _ h => h); (case hy19 => refine Or.inl ⟨by rfl, ?_⟩; intro wz hSw; (try dsimp only at hSw); go_simp; try with_reducible rfl); try simp only [Act.put, List.setIfInBounds_toArray, List.set_cons_zero, List.set_cons_succ])
          (refine' wpAnyT_take 12 3 (oi := ?oi20) (v := ?v20) ?hi20 (by kernel_rfl) (by kernel_rfl) (by kernel_rfl) (by kernel_rfl) (by kernel_rfl) (by kernel_rfl) ?hQ20 ?hy20 (by assumption) ?rest20; (case hi20 => simp only [List.getElem?_toArray, List.getElem?_cons_zero, List.getElem?_cons_succ]; rfl); (case hQ20 => exact fun _ _ _ h => h); (case hy20 => refine Or.inl ⟨by rfl, ?_⟩; intro wz hSw; (try dsimp only at hSw); go_simp; try with_reducible rfl); try simp only [Act.put, List.setIfInBounds_toArray, List.set_cons_zero, List.set_cons_succ])
          (refine' wpAnyT_take 12 4 (oi := ?oi21) (v := ?v21) ?hi21 (by kernel_rfl) (by kernel_rfl) (by kernel_rfl) (by kernel_rfl) (by kernel_rfl) (by kernel_rfl) ?hQ21 ?hy21 (by assumption) ?rest21; (case hi21 => simp only [List.getElem?_toArray, List.getElem?_cons_zero, List.getElem?_cons_succ]; rfl); (case hQ21 => exact fun _ _ _ h => h); (case hy21 => refine Or.inl ⟨by rfl, ?_⟩; intro wz hSw; (try dsimp only at hSw); go_simp; try with_reducible rfl); try simp only [Act.put, List.setIfInBounds_toArray, List.set_cons_zero, List.set_cons_succ])
          (refine' wpAnyT_take 12 5 (oi := ?oi22) (v := ?v22) ?hi22 (by kernel_rfl) (by kernel_rfl) (by kernel_rfl) (by kernel_rfl) (by kernel_rfl) (by kernel_rfl) ?hQ22 ?hy22 (by assumption) ?rest22; (case hi22 => simp only [List.getElem?_toArray, List.getElem?_cons_zero, List.getElem?_cons_succ]; rfl); (case hQ22 => exact fun _ _ _ h => h); (case hy22 => refine Or.inl ⟨by rfl, ?_⟩; intro wz hSw; (try dsimp only at hSw); go_simp; try with_reducible rfl); try simp only [Act.put, List.setIfInBounds_toArray, List.set_cons_zero, List.set_cons_succ])
          (refine' wpAnyT_take 12 6 (oi := ?oi23) (v := ?v23) ?hi23 (by kernel_rfl) (by kernel_rfl) (by kernel_rfl) (by kernel_rfl) (by kernel_rfl) (by kernel_rfl) ?hQ23 ?hy23 (by assumption) ?rest23; (case hi23 => simp only [List.getElem?_toArray, List.getElem?_cons_zero, List.getElem?_cons_succ]; rfl); (case hQ23 => exact fun _ _ _ h => h); (case hy23 => refine Or.inl ⟨by rfl, ?_⟩; intro wz hSw; (try dsimp only at hSw); go_simp; try with_reducible rfl); try simp only [Act.put, List.setIfInBounds_toArray, List.set_cons_zero, List.set_cons_succ])
          (refine' wpAnyT_take 12 7 (oi := ?oi24) (v := ?v24) ?hi24 (by kernel_rfl) (by kernel_rfl) (by kernel_rfl) (by kernel_rfl) (by kernel_rfl) (by kernel_rfl) ?hQ24 ?hy24 (by assumption) ?rest24; (case hi24 => simp only [List.getElem?_toArray, List.getElem?_cons_zero, List.getElem?_cons_succ]; rfl); (case hQ24 => exact fun _ _ _ h => h); (case hy24 => refine Or.inl ⟨by rfl, ?_⟩; intro wz hSw; (try dsimp only at hSw); go_simp; try with_reducible rfl); try simp only [Act.put, List.setIfInBounds_toArray, List.set_cons_zero, List.set_cons_succ])
          (refine' wpAnyT_take 12 8 (oi := ?oi25) (v := ?v25) ?hi25 (by kernel_rfl) (by kernel_rfl) (by kernel_rfl) (by kernel_rfl) (by kernel_rfl) (by kernel_rfl) ?hQ25 ?hy25 (by assumption) ?rest25; (case hi25 => simp only [List.getElem?_toArray, List.getElem?_cons_zero, List.getElem?_cons_succ]; rfl); (case hQ25 => exact fun _ _ _ h => h); (case hy25 => refine Or.inl ⟨by rfl, ?_⟩; intro wz hSw; (try dsimp only at hSw); go_simp; try with_reducible rfl); try simp only [Act.put, List.setIfInBounds_toArray, List.set_cons_zero, List.set_cons_succ])
          obtain ⟨e2, p0, p1⟩ := hHeld
          refine wpAnyT_ready (rs := [9]) (by kernel_rfl) (by simp) ?_
          (refine' AllReadyT.cons (o := ?o32) ?ho32 (fun K hK => ?step32) AllReadyT.nil; (case ho32 => simp only [List.getElem?_toArray, List.getElem?_cons_zero, List.getElem?_cons_succ]; rfl))
          go_simp
          refine (HFD.out _ HBWY.out).mono ?_
          rintro e Y1 ⟨rfl, ba⟩
          obtain ⟨hca, hfa⟩ := bcell ba
          have HOW1 := Lib.hid (own_below HOWY.out ba (Nat.le_refl _))
          have HOR1 := Lib.hid (own_below HORY.out ba (Nat.le_refl _))
          have HOU1 := Lib.hid (own_below HOUY.out ba (Nat.le_refl _))
          have HBW1 := Lib.hid (bl_trans HBWY.out ba)
          have HBB1 := Lib.hid (bl_trans HBBY.out ba)
          have hz1' := ba.size
          have f2 : Y1.cell? ⟨w1.heap.size, 3, none⟩ = some v' := by rw [hca _ _ hgY]; exact e2
          have f0 : Y1.cell? ⟨gp, 0, none⟩ = some (.int .i8 P.x) := by rw [hca _ _ hgpY]; exact p0
          have f1 : Y1.cell? ⟨gp, 1, none⟩ = some (.int .i8 P.y) := by rw [hca _ _ hgpY]; exact p1
          refine hK.out _ _ (fun _ _ => ⟨f2, f0, f1⟩) (fun hHd => ?_)
          have hHeld := hHd (by decide) (by decide)
          have hgp1Y : gp < Y1.heap.size := by omega
          have hg1Y : w1.heap.size < Y1.heap.size := by omega
          clear hHd hK K hca hfa ba e2 p0 p1 f0 f1 f2 HOWY HORY HOUY HBWY HBBY
          try simp only [Act.put, List.setIfInBounds_toArray, List.set_cons_zero, List.set_cons_succ]
          refine wpAnyT_ready (rs := [10]) (by kernel_rfl) (by simp) ?_
          (refine' AllReadyT.cons (o := ?o33) ?ho33 (fun K hK => ?step33) AllReadyT.nil; (case ho33 => simp only [List.getElem?_toArray, List.getElem?_cons_zero, List.getElem?_cons_succ]; rfl))
          go_simp
          have o1 := World.news_of_block (cs := #[.int .i64 fk]) (t := 3) (fr := (0, 0)) (heap_alloc_new Y1 (.cells #[.int .i64 fk] 3))
          have ba2 : Below Y1.heap.size Y1 (Y1.alloc (.cells #[.int .i64 fk] 3)) := bl_alloc (Below.refl _ _)
          have HOW2 := Lib.hid (own_below HOW1.out ba2 (Nat.le_refl _))
          have HOR2 := Lib.hid (own_below HOR1.out ba2 (Nat.le_refl _))
          have HOU2 := Lib.hid (own_below HOU1.out ba2 (Nat.le_refl _))
          have HBW2 := Lib.hid (bl_trans HBW1.out ba2)
          have HBB2 := Lib.hid (bl_trans HBB1.out ba2)
          obtain ⟨f2, f0, f1⟩ := hHeld
          have S2 : (Y1.alloc (.cells #[.int .i64 fk] 3)).cell? ⟨w1.heap.size, 3, none⟩ = some v' ∧ (Y1.alloc (.cells #[.int .i64 fk] 3)).cell? ⟨gp, 0, none⟩ = some (.int .i8 P.x) ∧ (Y1.alloc (.cells #[.int .i64 fk] 3)).cell? ⟨gp, 1, none⟩ = some (.int .i8 P.y) :=
            ⟨by rw [cell_alloc _ _ _ _ hg1Y]; exact f2, by rw [cell_alloc _ _ _ _ hgp1Y]; exact f0, by rw [cell_alloc _ _ _ _ hgp1Y]; exact f1⟩
          have hzY2 : Y1.heap.size + 1 = (Y1.alloc (.cells #[.int .i64 fk] 3)).heap.size := by simp
          refine hK.out _ _ (fun _ _ => S2) (fun hHd => ?_)
          have hHeld := hHd (by decide) (by decide)
          obtain ⟨Y2, hY2⟩ : ∃ Y, Y = Y1.alloc (.cells #[.int .i64 fk] 3) := ⟨_, rfl⟩
          rw [← hY2] at o1 HOW2 HOR2 HOU2 HBW2 HBB2 hzY2 hHeld ⊢
          clear hHd hK K S2 hY2 ba2 f0 f1 f2 HOW1 HOR1 HOU1 HBW1 HBB1
          try simp only [Act.put, List.setIfInBounds_toArray, List.set_cons_zero, List.set_cons_succ]
          refine wpAnyT_ready (rs := [11]) (by kernel_rfl) (by simp) ?_
          (refine' AllReadyT.cons (o := ?o34) ?ho34 (fun K hK => ?step34) AllReadyT.nil; (case ho34 => simp only [List.getElem?_toArray, List.getElem?_cons_zero, List.getElem?_cons_succ]; rfl))
          refine step_append_lies _ (by rfl) _ _ _ (by rfl) W.heap.size 3 j0 _ 1 8 Tryz.underlying106 hj0 hjz0 hjz1 hjz2 rfl (by omega) v' k (flat inC ((m.outs.take k).map (outF m.bd.ps))) (by rfl) HOU2.out ⟨Y1.heap.size, 0, none⟩ 1 1 [.int .i64 fk] (by rfl) (by rfl) o1 (by intro u hu; rw [List.mem_singleton] at hu; subst hu; rfl) (by omega) (by unfold maxLen; omega) hk32 (by omega) _ rfl ?_
          intro gg cap3 Y3 hown3 hgrow hat3 hlt3
          obtain ⟨f2, f0, f1⟩ := hHeld
          have S3 : Y3.cell? ⟨w1.heap.size, 3, none⟩ = some v' ∧ Y3.cell? ⟨gp, 0, none⟩ = some (.int .i8 P.x) ∧ Y3.cell? ⟨gp, 1, none⟩ = some (.int .i8 P.y) :=
            ⟨hgrow.cell f2 HNG.out, hgrow.cell f0 HNP.out, hgrow.cell f1 HNP.out⟩
          have how3 := own_kept HOW2.out hgrow (fun q hq e => HNG.out (by cases hq; exact e))
          have hor3 := own_kept HOR2.out hgrow HNV.out
          have hb3 : Below w1.heap.size w1 Y3 := bl_grown HBB2.out hgrow (fun q hq => by have := (HOU2.out.lt q hq).1; omega)
          refine hK.out _ _ (fun _ _ => S3) (fun hHd => ?_)
          have hHeld := hHd (by decide) (by decide)
          clear hK K S3 f0 f1 f2 hHd
          try simp only [Act.put, List.setIfInBounds_toArray, List.set_cons_zero, List.set_cons_succ]
          (refine' wpAnyT_take 12 12 (oi := ?oi26) (v := ?v26) ?hi26 (by kernel_rfl) (by kernel_rfl) (by kernel_rfl) (by kernel_rfl) (by kernel_rfl) (by kernel_rfl) ?hQ26 ?hy26 (by assumption) ?rest26; (case hi26 => simp only [List.getElem?_toArray, List.getElem?_cons_zero, List.getElem?_cons_succ]; rfl); (case hQ26 => exact fun _ _ _ h => h); (case hy26 => refine Or.inl ⟨by rfl, ?_⟩; intro wz hSw; (try dsimp only at hSw); go_simp; try with_reducible rfl); try simp only [Act.put, List.setIfInBounds_toArray, List.set_cons_zero, List.set_cons_succ])
          (refine' wpAnyT_take 12 13 (oi := ?oi27) (v := ?v27) ?hi27 (by kernel_rfl) (by kernel_rfl) (by kernel_rfl) (by kernel_rfl) (by kernel_rfl) (by kernel_rfl) ?hQ27 ?hy27 (by assumption) ?rest27; (case hi27 => simp only [List.getElem?_toArray, List.getElem?_cons_zero, List.getElem?_cons_succ]; rfl); (case hQ27 => exact fun _ _ _ h => h); (case hy27 => refine Or.inl ⟨by rfl, ?_⟩; intro wz hSw; (try dsimp only at hSw); go_simp; try with_reducible rfl); try simp only [Act.put, List.setIfInBounds_toArray, List.set_cons_zero, List.set_cons_succ])
          have e3 : Y3.cell? ⟨w1.heap.size, 3, none⟩ = some v' := by rw [how3.cellAt 3 (by omega)]; rfl
          have e3f : Y3.frozen? ⟨w1.heap.size, 3, none⟩ = false := how3.frozenAt 3
          refine wpAnyT_ready (rs := [14]) (by kernel_rfl) (by simp) ?_
          (refine' AllReadyT.cons (o := ?o35) ?ho35 (fun K hK => ?step35) AllReadyT.nil; (case ho35 => simp only [List.getElem?_toArray, List.getElem?_cons_zero, List.getElem?_cons_succ]; rfl))
          go_simp
          refine hK.out _ _ (fun _ h => absurd h (by decide)) (fun _ => ?_)
          clear hK K hHeld
          try simp only [Act.put, List.setIfInBounds_toArray, List.set_cons_zero, List.set_cons_succ]
          refine wpAnyT_done (by kernel_rfl) ?_ _
          have how4 := (how3.stored 3 (.slice (some ⟨gg, 0, none⟩) (k + 1) cap3)).1
          have hg4 := (how3.stored 3 (.slice (some ⟨gg, 0, none⟩) (k + 1) cap3)).2
          have hou4 := own_kept hown3 hg4 (by intro q hq e; have h8 := (hown3.lt q hq).1; cases e; omega)
          have hor4 := own_kept hor3 hg4 (by intro q hq e; have h8 := (hor3.lt q hq).1; cases e; omega)
          have hb4 : Below w1.heap.size w1 (Y3.setCell ⟨w1.heap.size, 3, none⟩ (.slice (some ⟨gg, 0, none⟩) (k + 1) cap3)) := bl_set hb3 (Nat.le_refl _) _
          have hz4 : W.heap.size ≤ (Y3.setCell ⟨w1.heap.size, 3, none⟩ (.slice (some ⟨gg, 0, none⟩) (k + 1) cap3)).heap.size := by have := hgrow.size; simp; omega
          have hcells : flat inC ((m.outs.take k).map (outF m.bd.ps)) ++ [.int .i64 fk] = flat inC ((m.outs.take (k + 1)).map (outF m.bd.ps)) := by rw [HTK.out, flat_append, flat_cons, flat_nil, List.append_nil, HH0.out]; rfl
          rw [hcells] at hou4
          clear how3 hor3 hown3 hgrow hat3 hlt3 hg4 e3 e3f
          go_wp2
          go_roundw
          case rel => exact ⟨k + 1, _, by omega, by go_num, how4, hor4, hou4, hz4, hb4, hvW⟩
          case measure => simp [intOf]; omega
        · have hkn : k = m.outs.length := by omega
          subst hkn
          rw [List.take_length] at hou
          have hres : WkAt wr w1.heap.size b0 m ∧ ∀ q, KpPs w b0 m.bd q → ∀ w2, wr.grownBy w2 (some q) → WkAt w2 w1.heap.size b0 m := by
            refine ⟨wk_mk (by omega) how hor hou (HS1.out.step hb), fun q hq w2 hg => ?_⟩
            have hq1 := hq.1
            have how2 := own_kept how hg (by intro k hk e; have := (how.lt k hk).1; cases e; omega)
            have hor2 := own_kept hor hg (by intro k hk e; have := (hor.lt k hk).1; cases e; omega)
            have hou2 := own_kept hou hg (by intro k hk e; have := (hou.lt k hk).1; cases e; omega)
            exact wk_mk (how2.lt _ rfl).2 how2 hor2 hou2 (HSK.out q hq w2 (bl_gb hb hg))
          have HRES := Lib.hid hres
          clear how hor hou hvW hres
          go_wp2
          go_ret
          exact ⟨w1.heap.size, rfl, hz1, HRES.out, hbW⟩
theorem worksOf_any (b0 : Nat) (m : Mc) (w : World) (h : MP w b0 m) (hv : vMc m = true) (hok : m.ok) :
    Calls Tryz.prog 69 #[.pointer (some ⟨b0, 0, none⟩)] w fun e w' => ∃ g, e = .returned (.pointer (some ⟨g, 0, none⟩)) ∧ w.heap.size ≤ g ∧ WkAt w' g b0 m ∧ Below w.heap.size w w' :=
  (worksOf_kp b0 m w h hv hok).mono fun _ _ ⟨g, h1, h2, h3, h4⟩ => ⟨g, h1, h2, h3.1, h4⟩
end Go.Proofs.YtmeefmoblkiebaaGreat
/- Contracts: all tables (the reference). -/
namespace Go.Proofs.YtmeefmoblkiebaaGreat
open Go.RowKit
set_option linter.unusedVariables false
set_option linter.unusedSimpArgs false
set_option maxHeartbeats 400000
set_option maxRecDepth 100000
/-- The tables in the midst of row r: the first i outputs have it. -/
def tabSt (f : Nat → Nat) (n r i : Nat) : List Int := (List.range n).map (fun j => ((tabTo f j (if j < i then r + 1 else r) : Nat) : Int))
theorem tabSt_len (f : Nat → Nat) (n r i : Nat) : (tabSt f n r i).length = n := by simp [tabSt]
theorem tabSt_get (f : Nat → Nat) (n r i j : Nat) (hj : j < n) : (tabSt f n r i)[j]'(by rw [tabSt_len]; exact hj) = ((tabTo f j (if j < i then r + 1 else r) : Nat) : Int) := by simp [tabSt]
theorem tabSt_end (f : Nat → Nat) (n r : Nat) : tabSt f n r n = tabSt f n (r + 1) 0 := by
  unfold tabSt
  apply List.map_congr_left
  intro j hj
  rw [List.mem_range] at hj
  rw [if_pos hj, if_neg (by omega)]
theorem tabSt_zero (f : Nat → Nat) (n : Nat) : tabSt f n 0 0 = zeros n := by
  unfold tabSt zeros
  apply List.ext_getElem
  · simp
  · intro i h1 h2
    simp [tabTo]
theorem tabSt_set (f : Nat → Nat) (n r i : Nat) (hi : i < n) : (tabSt f n r i).set i ((tabTo f i (r + 1) : Nat) : Int) = tabSt f n r (i + 1) := by
  apply List.ext_getElem
  · simp [tabSt]
  · intro j h1 h2
    have hj : j < n := by rw [tabSt_len] at h2; exact h2
    rw [List.getElem_set, tabSt_get f n r (i + 1) j hj]
    by_cases e : i = j
    · subst e; rw [if_pos rfl, if_pos (by omega)]
    · rw [if_neg e, tabSt_get f n r i j hj]
      by_cases h3 : j < i
      · rw [if_pos h3, if_pos (by omega)]
      · rw [if_neg h3, if_neg (by omega)]
theorem flatU (xs : List Int) : flat U64_cells xs = xs.map (Value.int .u64) := by
  induction xs with
  | nil => rfl
  | cons x xs ih => rw [flat_cons, ih]; rfl
theorem flatU_zeros (n : Nat) : flat U64_cells (zeros n) = List.replicate n (.int .u64 0) := by
  rw [flatU]; unfold zeros; rw [List.map_replicate]
theorem u64_cell {w : World} {base g n cap : Nat} {xs : List Int} (h : w.ownsRow base 134 1 (.slice (some ⟨g, 0, none⟩) n cap) n (flat U64_cells xs)) (j : Nat) (hj : j < xs.length) : w.cell? ⟨g, j, none⟩ = some (.int .u64 xs[j]) ∧ w.frozen? ⟨g, j, none⟩ = false := by
  have hl := h.1
  rw [flat_length U64_len] at hl
  have h1 := h.cellAt j (by omega)
  rw [h1, flatU]
  exact ⟨by simp [hj], (own_cell h (j := j) (by omega)).2⟩
theorem u64_set {w : World} {base g n cap : Nat} {xs : List Int} (h : w.ownsRow base 134 1 (.slice (some ⟨g, 0, none⟩) n cap) n (flat U64_cells xs)) (j : Nat) (x : Int) : (w.setCell ⟨g, j, none⟩ (.int .u64 x)).ownsRow base 134 1 (.slice (some ⟨g, 0, none⟩) n cap) n (flat U64_cells (xs.set j x)) := by
  have h1 := (h.stored j (.int .u64 x)).1
  rw [flatU] at h1 ⊢
  rwa [List.map_set]
theorem bit_val (n i : Nat) (hn : n < 9223372036854775808) : bits .and .i64 ((n : Int) / 2 ^ i) 1 = if n.testBit i = true then 1 else 0 := by
  have h1 : n / 2 ^ i < 9223372036854775808 := Nat.lt_of_le_of_lt (Nat.div_le_self _ _) hn
  rw [div_pow]
  have h2 := (bits_i64 (n / 2 ^ i) 1 h1 (by omega)).1
  have h3 : bits .and .i64 ((n / 2 ^ i : Nat) : Int) 1 = ((n / 2 ^ i &&& 1 : Nat) : Int) := h2
  rw [h3, bit_and]
  unfold bitN
  cases n.testBit i <;> rfl
theorem pow_63 (k : Nat) (hk : k < 64) : ∃ p : Int, (2 : Int) ^ k = p ∧ 1 ≤ p ∧ p ≤ 9223372036854775808 ∧ p = ((2 ^ k : Nat) : Int) ∧ IntKind.u64.wrap p = p := by
  have h2 : ((2 ^ k : Nat) : Int) = (2 : Int) ^ k := by push_cast; rfl
  have h1 := Nat.one_le_two_pow (n := k)
  have h3 := pow_mono2 (a := k) (b := 63) (by omega)
  refine ⟨(2 : Int) ^ k, rfl, by omega, by omega, by push_cast; rfl, wrap_u64 _ (by omega) (by omega)⟩
theorem tab_yes (f : Nat → Nat) (i r : Nat) (hr : r < 64) (h : (f r).testBit i = true) : bits .or .u64 (tabTo f i r : Int) ((2 ^ r : Nat) : Int) = (tabTo f i (r + 1) : Int) := by
  have h1 := tabTo_lt f i r
  have h2 := pow_mono2 (a := r) (b := 63) (by omega)
  rw [(bits_u64 (tabTo f i r) (2 ^ r) (by omega) (by omega)).2.1]
  show _ = ((if (f r).testBit i = true then _ else _ : Nat) : Int)
  rw [if_pos h]
theorem tab_no (f : Nat → Nat) (i r : Nat) (h : (f r).testBit i = false) : tabTo f i (r + 1) = tabTo f i r := by
  show (if (f r).testBit i = true then _ else _) = _
  rw [h]; rfl
theorem or_zero (f : Nat → Nat) (i r : Nat) (hr : r ≤ 64) : bits .or .u64 (tabTo f i r : Int) 0 = (tabTo f i r : Int) := by
  have h1 := tabTo_lt f i r
  have h2 := pow_mono2 (a := r) (b := 64) hr
  have h3 := (bits_u64 (tabTo f i r) 0 (by omega) (by omega)).2.1
  rw [Nat.or_zero] at h3
  exact h3
noncomputable def mTabI (m : Mc) : List Int := (mTabs m).map (fun (n : Nat) => (n : Int))
theorem mTabI_st (m : Mc) : mTabI m = tabSt (fun r => mOut m r (zeros m.ins.length)) m.outs.length (mRows m) 0 := by
  unfold mTabI mTabs tabSt
  rw [List.map_map]
  apply List.map_congr_left
  intro j hj
  simp
theorem mTabI_len (m : Mc) : (mTabI m).length = m.outs.length := by rw [mTabI_st, tabSt_len]
set_option maxHeartbeats 1600000 in
theorem l03Tables_any (b0 : Nat) (m : Mc) (w : World) (h : MP w b0 m) (hv : vMc m = true) (hok : m.ok) :
    Calls Tryz.prog 86 #[.pointer (some ⟨b0, 0, none⟩)] w fun e w' => ∃ v, e = .returned v ∧ w'.ownsRow w.heap.size 134 1 v m.outs.length (flat U64_cells (mTabI m)) ∧ Below w.heap.size w w' := by
  obtain ⟨hvb, h60, hi1, hi6, ho1, ho8, -⟩ := vMc_parts m hv
  have HALL := Lib.hid (l03All_any b0 m w h hv hok)
  have HTI := Lib.hid (mTabI_st m)
  have hR64 := mRows_le m hi6
  have HAG : Hid (∀ R r (hr : r < (mAll m R).length), (mAll m R)[r] = ((mOut m r (zeros m.ins.length) : Nat) : Int)) := Lib.hid (by intro R r hr; simp [mAll])
  have HAL := Lib.hid (mAll_len m (mRows m))
  have HOL : Hid (∀ r, mOut m r (zeros m.ins.length) < 256) := Lib.hid (fun r => by
    have h1 := bitsTo_lt (mTk m r (zeros m.ins.length)) m.outs.length
    have h2 := pow_mono2 (a := m.outs.length) (b := 8) ho8
    show bitsTo _ _ < 256
    omega)
  obtain ⟨R, hRR⟩ : ∃ R, R = mRows m := ⟨_, rfl⟩
  rw [← hRR] at HALL HTI hR64 HAL
  have HAGR := Lib.hid (HAG.out R)
  obtain ⟨all, hall⟩ : ∃ all, all = mAll m R := ⟨_, rfl⟩
  rw [← hall] at HALL HAGR HAL
  obtain ⟨f, hf⟩ : ∃ f : Nat → Nat, f = fun r => mOut m r (zeros m.ins.length) := ⟨_, rfl⟩
  rw [← hf] at HTI
  have HAF : Hid (∀ r (hr : r < all.length), all[r] = ((f r : Nat) : Int)) := Lib.hid (by intro r hr; rw [HAGR.out r hr, hf])
  have HFL : Hid (∀ r, f r < 256) := Lib.hid (fun r => by rw [hf]; exact HOL.out r)
  generalize mTabI m = res at HTI ⊢
  clear hRR hall HAG HAGR HOL hf
  obtain ⟨hbl, s, si, so, ⟨hbd, c3, c4⟩, -, -, ⟨oa, ocap, rfl, houts⟩⟩ := h
  obtain ⟨i0, hi0, hiz0, hiz1, hiz2⟩ := info_parts Tryz.infoUint64
  go_enter Tryz.func86, Tryz.ntmps86
  go_wp2_with fail
  refine HALL.out.mono ?_
  rintro e w1 ⟨va, rfl, hownA, hb1⟩
  obtain ⟨aa, acap, rfl, hslA, -, -⟩ := own_at hownA
  have HSA := Lib.hid hslA
  have HB1 := Lib.hid hb1
  have r4 : w1.cell? ⟨b0, 4, none⟩ = some (.slice oa m.outs.length ocap) := by rw [hb1.cell (p := ⟨_, _, none⟩) hbl]; exact c4
  clear hownA hslA hb1 HALL
  go_wp2_with (refine wpList_make_full _ rfl (.tmp 13) (.tmp 13) 115 rfl w1.heap.size 134 i0 _ 1 Tryz.underlying115 hi0 hiz0 hiz1 _ _ _ _ m.outs.length rfl rfl rfl rfl (by rw [hiz2]; omega) (by unfold maxLen; omega) (Nat.le_refl _) ?_; intro w2 hmade hgrow)
  rw [made_rep _ rfl, ← flatU_zeros, ← tabSt_zero f] at hmade
  have hb2 : Below w1.heap.size w1 w2 := bl_grown (Below.refl _ _) hgrow (by simp)
  clear r4 hgrow
  go_loopw [5] (fun rx wr => ∃ r : Nat, r ≤ R ∧ rx = .int .i64 r ∧ wr.ownsRow w1.heap.size 134 1 (.slice (some ⟨w1.heap.size, 0, none⟩) m.outs.length m.outs.length) m.outs.length (flat U64_cells (tabSt f m.outs.length r 0)) ∧ Below w1.heap.size w1 wr) (fun rx _ => R - (intOf rx).toNat)
  case atStart => exact ⟨0, by omega, rfl, hmade, hb2⟩
  case round =>
    clear hmade hb2
    obtain ⟨r, hr, rfl, hown, hb⟩ := hrel
    by_cases hlt : r < R
    · have hltI : (r : Int) < R := by omega
      go_wp2
      go_loopw [6] (fun ix wi => ∃ i : Nat, i ≤ m.outs.length ∧ ix = .int .i64 i ∧ wi.ownsRow w1.heap.size 134 1 (.slice (some ⟨w1.heap.size, 0, none⟩) m.outs.length m.outs.length) m.outs.length (flat U64_cells (tabSt f m.outs.length r i)) ∧ Below w1.heap.size w1 wi) (fun ix _ => m.outs.length - (intOf ix).toNat)
      case atStart => exact ⟨0, by omega, rfl, hown, hb⟩
      case round =>
        clear hown hb
        obtain ⟨i, hi, rfl, hown, hb⟩ := hrel
        by_cases hlti : i < m.outs.length
        · obtain ⟨k0, k1⟩ := u64_cell hown i (by rw [tabSt_len]; exact hlti)
          rw [tabSt_get f _ r i i hlti, if_neg (by omega)] at k0
          have hra : r < all.length := by rw [HAL.out]; exact hlt
          obtain ⟨ba, offa, rfl, hba, hata⟩ := n64s_get HSA.out hra
          unfold N64At at hata
          rw [Nat.mul_one, HAF.out r hra] at hata
          have q0 : wr.cell? ⟨ba, offa + r, none⟩ = some (.int .i64 ((f r : Nat) : Int)) := by rw [hb.cell (p := ⟨_, _, none⟩) hba]; exact hata
          have hlo := HFL.out r
          have hbv := bit_val (f r) i (by omega)
          have HOWN := Lib.hid hown
          have hriI : (r : Int) < R := by omega
          have hiI : (i : Int) < m.outs.length := by omega
          have hi8 : i < 8 := by omega
          have HVAL : Hid (bits .or .u64 ((tabTo f i r : Nat) : Int) (IntKind.u64.wrap (IntKind.u64.wrap (bits .and .i64 (((f r : Nat) : Int) / 2 ^ min i 64) 1) * 2 ^ min r 64)) = ((tabTo f i (r + 1) : Nat) : Int)) := Lib.hid (by
            rw [Nat.min_eq_left (show i ≤ 64 by omega), Nat.min_eq_left (show r ≤ 64 by omega), hbv]
            obtain ⟨p, hp, hp1, hp2, hp3, hp4⟩ := pow_63 r (by omega)
            cases gb : (f r).testBit i with
            | true =>
              rw [if_pos rfl, wrap_u64 1 (by omega) (by omega), Int.one_mul, hp, hp4, hp3]
              exact tab_yes f i r (by omega) gb
            | false =>
              rw [if_neg Bool.false_ne_true, wrap_u64 0 (by omega) (by omega), Int.zero_mul, wrap_u64 0 (by omega) (by omega), or_zero f i r (by omega), tab_no f i r gb])
          obtain ⟨F, hF⟩ : ∃ F, F = f r := ⟨_, rfl⟩
          rw [← hF] at q0 hlo HVAL
          obtain ⟨T, hT⟩ : ∃ T, T = tabTo f i r := ⟨_, rfl⟩
          rw [← hT] at k0 HVAL
          clear hown hata hF hT hra hbv
          go_upto_region 9 with fail
          go_still_tail 18, (by kernel_rfl)
          change wpList _ _ _ _ _ wr.drew
          go_wp2
          have how := u64_set HOWN.out i ((tabTo f i (r + 1) : Nat) : Int)
          rw [tabSt_set f _ r i hlti] at how
          go_roundw
          case rel => exact ⟨i + 1, by omega, by go_num, by rw [HVAL.out]; exact own_below how (bl_drew (Below.refl _ _)) (Nat.le_refl _), bl_drew (bl_set hb (Nat.le_refl _) _)⟩
          case measure => simp [intOf]; omega
        · have hin : i = m.outs.length := by omega
          subst hin
          rw [tabSt_end] at hown
          have HOWN := Lib.hid hown
          clear hown
          go_wp2
          go_roundw
          case rel => exact ⟨r + 1, by omega, by go_num, HOWN.out, hb⟩
          case measure => simp [intOf]; omega
    · have hkn : r = R := by omega
      subst hkn
      have HOWN2 := own_mono (base := w.heap.size) hown HB1.out.size
      rw [← HTI.out] at HOWN2
      have HBF := Lib.hid (bl_trans HB1.out hb)
      clear hown
      go_wp2
      go_ret
      exact ⟨_, rfl, HOWN2, HBF.out⟩
end Go.Proofs.YtmeefmoblkiebaaGreat
/- Contracts: the falls, the outputs and the tables of a machine (the program). -/
namespace Go.Proofs.YtmeefmoblkiebaaGreat
open Go.RowKit
set_option linter.unusedVariables false
set_option linter.unusedSimpArgs false
set_option maxHeartbeats 400000
set_option maxRecDepth 100000
/-- How late the inputs are, as a value: nil says that none is. -/
def LateV (w : World) (v : Value) (n : Nat) (L : List Int) : Prop := L.length = n ∧ lateOk L ∧ ((v = .slice none 0 0 ∧ L = zeros n) ∨ ∃ a cap, v = .slice (some a) n cap ∧ SlAt w.heap.size w (some a) (flat N64_cells L))
theorem LateV.step {w w' : World} {v : Value} {n : Nat} {L : List Int} (h : LateV w v n L) (hb : Below w.heap.size w w') : LateV w' v n L := by
  obtain ⟨h1, h2, h3⟩ := h
  refine ⟨h1, h2, h3.imp id ?_⟩
  rintro ⟨a, cap, e, h⟩
  exact ⟨a, cap, e, (h.below hb (Nat.le_refl _)).mono hb.size⟩
theorem LateV.nil (w : World) (n : Nat) : LateV w (.slice none 0 0) n (zeros n) := ⟨by simp [zeros], zeros_ok n, .inl ⟨rfl, rfl⟩⟩
theorem zeros_get (n i : Nat) : (zeros n).getD i 0 = 0 := by
  unfold zeros
  rw [List.getD_eq_getElem?_getD, List.getElem?_replicate]
  split <;> rfl
theorem hit_of (bd : Bd) (ins : List Po) (L : List Int) (k : Nat) (hk : k < ins.length) : hitOf bd (puOf ins L k) = ⟨L.getD k 0, fnd ⟨ins[k].x, ins[k].y⟩ bd.ps, ins[k].s, -1⟩ := by
  unfold hitOf puOf
  rw [getD_po ins k hk]
set_option maxHeartbeats 3200000 in
theorem wfalls_any (g b0 : Nat) (m : Mc) (row : Nat) (vl : Value) (L : List Int) (w : World) (h : WkAt w g b0 m) (hv : vMc m = true) (hok : m.ok) (hl : LateV w vl m.ins.length L) (hrow : row < 64) :
    Calls Tryz.prog 123 #[.pointer (some ⟨g, 0, none⟩), .int .i64 row, vl] w fun e w' => ∃ v, e = .returned v ∧ w'.ownsRow w.heap.size 43 3 v (mFa m row L).length (flat Fa.cells (mFa m row L)) ∧ Below w.heap.size w w' := by
  obtain ⟨hvb, h60, hi1, hi6, ho1, ho8, -⟩ := vMc_parts m hv
  obtain ⟨hll, hlo, hlv⟩ := hl
  obtain ⟨o1, o2, o3, o4⟩ := mPu_ok m hv hok row L hlo
  have HG := Lib.hid (good_bd m.bd hvb (mPu m row L) o2)
  obtain ⟨hgl, c0, ⟨bs, c1, hst⟩, ⟨ai, capi, c2, hsi⟩, -⟩ := h
  have HRUN := Lib.hid (fun w1 (hb : Below w.heap.size w w1) av cap (hs : SlAt w1.heap.size w1 av (flat Hi.cells ((mPu m row L).map (hitOf m.bd)))) => run_any (B := w1.heap.size) bs m.bd av cap (mPu m row L) w1 (hst.step hb) hvb hs o2 o3 o4 (Nat.le_refl _))
  have HFE : Hid (mFa m row L = runOf m.bd.ps (mPu m row L)) := Lib.hid rfl
  have HPL : Hid (mPu m row L = mPuTo m.ins row L m.ins.length) := Lib.hid rfl
  have HS : Hid (∀ k, mPuTo m.ins row L (k + 1) = mPuTo m.ins row L k ++ (if row.testBit k = true then [puOf m.ins L k] else [])) := Lib.hid (fun k => rfl)
  have HLE := Lib.hid (fun k => mPuTo_len m.ins row L k)
  have HHO := Lib.hid (fun k hk => hit_of m.bd m.ins L k hk)
  obtain ⟨fs, hfs⟩ : ∃ fs, fs = mFa m row L := ⟨_, rfl⟩
  obtain ⟨pl, hpl⟩ : ∃ pl, pl = mPu m row L := ⟨_, rfl⟩
  rw [← hfs] at HFE ⊢
  rw [← hpl] at HG HRUN HFE HPL
  have HLO := Lib.hid hlo
  clear hfs hpl o1 o2 o3 o4 hst hlo
  obtain ⟨i0, hi0, hiz0, hiz1, hiz2⟩ := info_parts Tryz.infoHit
  have hown0 := World.ownsRow_made (e := 161) (size := 4) w #[] 0 (Nat.le_refl _) (by simp [maxLen]) rfl
  have hb0 : Below w.heap.size w (w.alloc (.cells #[] 161)) := bl_alloc (Below.refl _ _)
  have hmi : (m.ins.map (hit0 m.bd.ps)).length = m.ins.length := by simp
  have HHG : Hid (∀ k (hk : k < (m.ins.map (hit0 m.bd.ps)).length) (h2 : k < m.ins.length), (m.ins.map (hit0 m.bd.ps))[k] = ⟨0, fnd ⟨m.ins[k].x, m.ins[k].y⟩ m.bd.ps, m.ins[k].s, -1⟩) := Lib.hid (by intro k hk h2; simp [hit0])
  have HMI := Lib.hid hmi
  clear hmi
  go_enter Tryz.func123, Tryz.ntmps123
  go_wp2
  go_loopw [7, 16] (fun v ix wr => ∃ k : Nat, k ≤ m.ins.length ∧ ix = .int .i64 k ∧ wr.ownsRow w.heap.size 161 4 v (mPuTo m.ins row L k).length (flat Hi.cells ((mPuTo m.ins row L k).map (hitOf m.bd))) ∧ Below w.heap.size w wr) (fun _ ix _ => m.ins.length - (intOf ix).toNat)
  case atStart => exact ⟨0, by omega, rfl, hown0, hb0⟩
  case round =>
    clear hown0 hb0
    obtain ⟨k, hk, rfl, hown, hb⟩ := hrel
    obtain ⟨av, capv, hve, -, -, -⟩ := own_at hown
    subst hve
    have HOWN := Lib.hid hown
    have hzb := hb.size
    have hle := HLE.out k
    have HB := Lib.hid hb
    clear hown
    obtain ⟨n, hnn⟩ : ∃ n, n = (mPuTo m.ins row L k).length := ⟨_, rfl⟩
    rw [← hnn] at HOWN hle ⊢
    have HNN := Lib.hid hnn
    clear hnn
    by_cases hlt : k < m.ins.length
    · have hkm : k < (m.ins.map (hit0 m.bd.ps)).length := by rw [HMI.out]; exact hlt
      obtain ⟨b, off, rfl, hbi, hat⟩ := his_get hsi hkm
      rw [HHG.out k hkm hlt] at hat
      unfold HiAt at hat
      simp only at hat
      obtain ⟨a0, a1, a2, a3⟩ := hat
      have HH := Lib.hid (HHO.out k hlt)
      obtain ⟨fk, hfk⟩ : ∃ fk, fk = fnd ⟨m.ins[k].x, m.ins[k].y⟩ m.bd.ps := ⟨_, rfl⟩
      rw [← hfk] at a1 HH
      obtain ⟨sk, hsk⟩ : ∃ sk, sk = m.ins[k].s := ⟨_, rfl⟩
      rw [← hsk] at a2 HH
      clear hfk hsk
      have q0 : wr.cell? ⟨b, off + k * 4, none⟩ = some (.int .i64 0) := by rw [hb.cell (p := ⟨_, _, none⟩) hbi]; exact a0
      have q1 : wr.cell? ⟨b, off + k * 4 + 1, none⟩ = some (.int .i64 fk) := by rw [hb.cell (p := ⟨_, _, none⟩) hbi]; exact a1
      have q2 : wr.cell? ⟨b, off + k * 4 + 2, none⟩ = some (.int .i64 sk) := by rw [hb.cell (p := ⟨_, _, none⟩) hbi]; exact a2
      have q3 : wr.cell? ⟨b, off + k * 4 + 3, none⟩ = some (.int .i64 (-1)) := by rw [hb.cell (p := ⟨_, _, none⟩) hbi]; exact a3
      have HBI := Lib.hid (fun w1 => bitI_any row k (by omega) (by omega) w1)
      clear a0 a1 a2 a3
      cases gb : row.testBit k with
      | false =>
        rw [gb] at HBI
        have HC2 : Hid (mPuTo m.ins row L (k + 1) = mPuTo m.ins row L k) := Lib.hid (by rw [HS.out, gb]; simp)
        have HO2 := Lib.hid (own_below HOWN.out (bl_alloc (o := .cells #[.int .i64 0, .int .i64 fk, .int .i64 sk, .int .i64 (-1)] 161) (Below.refl wr.heap.size wr)) (Nat.le_refl _))
        clear gb
        go_wp2_with (go_at_call 124; refine (HBI.out _).mono ?_; rintro e w' ⟨rfl, rfl⟩)
        go_roundw
        case rel => exact ⟨k + 1, by omega, by go_num, by rw [HC2.out, ← HNN.out]; exact HO2.out, bl_alloc HB.out⟩
        case measure => simp [intOf]; omega
      | true =>
        rw [gb] at HBI
        have HC2 : Hid (mPuTo m.ins row L (k + 1) = mPuTo m.ins row L k ++ [puOf m.ins L k]) := Lib.hid (by rw [HS.out, gb]; simp)
        clear gb
        rcases hlv with ⟨rfl, hz⟩ | ⟨al, capl, rfl, hsl⟩
        · have HT : Hid (L.getD k 0 = 0) := Lib.hid (by rw [hz]; exact zeros_get _ _)
          have HO2 := Lib.hid (own_below HOWN.out (bl_alloc (o := .cells #[.int .i64 0, .int .i64 fk, .int .i64 sk, .int .i64 (-1)] 161) (Below.refl wr.heap.size wr)) (Nat.le_refl _))
          have hzz : (wr.alloc (.cells #[.int .i64 0, .int .i64 fk, .int .i64 sk, .int .i64 (-1)] 161)).heap.size = wr.heap.size + 1 := by simp
          have HZZ := Lib.hid hzz
          clear hz hzz
          go_wp2_with (first | (go_at_call 124; refine (HBI.out _).mono ?_; rintro e w' ⟨rfl, rfl⟩) | (at_builtin; go_must (refine wpList_append_sl _ rfl _ _ 105 rfl w.heap.size 161 i0 (.agg #[.int .i64 0, .int .i64 0, .int .i64 0, .int .i64 0]) 4 32 Tryz.underlying105 hi0 hiz0 hiz1 hiz2 rfl (by decide) _ _ _ rfl (own_below HO2.out (bl_alloc (Below.refl _ _)) (Nat.le_refl _)) (some ⟨_, 0, none⟩) 1 1 [.int .i64 0, .int .i64 fk, .int .i64 sk, .int .i64 (-1)] rfl (sl_newC (wr.alloc (.cells #[.int .i64 0, .int .i64 fk, .int .i64 sk, .int .i64 (-1)] 161)) #[.int .i64 0, .int .i64 fk, .int .i64 sk, .int .i64 (-1)] 161 _ (by rw [HZZ.out])) rfl (Hi.one ⟨0, fk, sk, -1⟩) (by unfold maxLen; omega) (by omega) (by simp; omega) ?_); intro v3 w3 hown3 hgrow))
          have hb3 : Below w.heap.size w w3 := (bl_alloc (bl_alloc HB.out)).grown hgrow (by simp; omega) (fun q hq => (HO2.out.lt q hq).1)
          have hcells : flat Hi.cells ((mPuTo m.ins row L k).map (hitOf m.bd)) ++ [.int .i64 0, .int .i64 fk, .int .i64 sk, .int .i64 (-1)] = flat Hi.cells ((mPuTo m.ins row L (k + 1)).map (hitOf m.bd)) := by rw [HC2.out, List.map_append, flat_append, List.map_cons, List.map_nil, HH.out, HT.out]; rfl
          have hnn2 : n + 1 = (mPuTo m.ins row L (k + 1)).length := by rw [HC2.out, List.length_append, ← HNN.out]; rfl
          rw [hcells] at hown3
          go_roundw
          case rel => exact ⟨k + 1, by omega, by go_num, by rw [← hnn2]; exact hown3, hb3⟩
          case measure => simp [intOf]; omega
        · have hkl : k < L.length := by rw [hll]; exact hlt
          obtain ⟨bl, offl, he, hbL, hatl⟩ := n64s_get hsl hkl
          simp only [Option.some.injEq] at he
          subst he
          unfold N64At at hatl
          rw [Nat.mul_one] at hatl
          have q4 : wr.cell? ⟨bl, offl + k, none⟩ = some (.int .i64 L[k]) := by rw [hb.cell (p := ⟨_, _, none⟩) hbL]; exact hatl
          have HT : Hid (L.getD k 0 = L[k]) := Lib.hid (getD_n L k hkl)
          obtain ⟨T, hT⟩ : ∃ T, T = L[k] := ⟨_, rfl⟩
          rw [← hT] at q4 HT
          have q5 : (wr.alloc (.cells #[.int .i64 0, .int .i64 fk, .int .i64 sk, .int .i64 (-1)] 161)).cell? ⟨bl, offl + k, none⟩ = some (.int .i64 T) := by rw [cell_alloc _ _ _ _ (by omega)]; exact q4
          have hkI : (k : Int) < m.ins.length := by omega
          clear hatl hT hkl
          have HO2 := Lib.hid (own_below HOWN.out (bl_alloc (o := .cells #[.int .i64 T, .int .i64 fk, .int .i64 sk, .int .i64 (-1)] 161) (Below.refl wr.heap.size wr)) (Nat.le_refl _))
          have hzz : (wr.alloc (.cells #[.int .i64 T, .int .i64 fk, .int .i64 sk, .int .i64 (-1)] 161)).heap.size = wr.heap.size + 1 := by simp
          have HZZ := Lib.hid hzz
          clear hzz
          go_wp2_with (first | (go_at_call 124; refine (HBI.out _).mono ?_; rintro e w' ⟨rfl, rfl⟩) | (at_builtin; go_must (refine wpList_append_sl _ rfl _ _ 105 rfl w.heap.size 161 i0 (.agg #[.int .i64 0, .int .i64 0, .int .i64 0, .int .i64 0]) 4 32 Tryz.underlying105 hi0 hiz0 hiz1 hiz2 rfl (by decide) _ _ _ rfl (own_below HO2.out (bl_alloc (Below.refl _ _)) (Nat.le_refl _)) (some ⟨_, 0, none⟩) 1 1 [.int .i64 T, .int .i64 fk, .int .i64 sk, .int .i64 (-1)] rfl (sl_newC (wr.alloc (.cells #[.int .i64 T, .int .i64 fk, .int .i64 sk, .int .i64 (-1)] 161)) #[.int .i64 T, .int .i64 fk, .int .i64 sk, .int .i64 (-1)] 161 _ (by rw [HZZ.out])) rfl (Hi.one ⟨T, fk, sk, -1⟩) (by unfold maxLen; omega) (by omega) (by simp; omega) ?_); intro v3 w3 hown3 hgrow))
          have hb3 : Below w.heap.size w w3 := (bl_alloc (bl_alloc HB.out)).grown hgrow (by simp; omega) (fun q hq => (HO2.out.lt q hq).1)
          have hcells : flat Hi.cells ((mPuTo m.ins row L k).map (hitOf m.bd)) ++ [.int .i64 T, .int .i64 fk, .int .i64 sk, .int .i64 (-1)] = flat Hi.cells ((mPuTo m.ins row L (k + 1)).map (hitOf m.bd)) := by rw [HC2.out, List.map_append, flat_append, List.map_cons, List.map_nil, HH.out, HT.out]; rfl
          have hnn2 : n + 1 = (mPuTo m.ins row L (k + 1)).length := by rw [HC2.out, List.length_append, ← HNN.out]; rfl
          rw [hcells] at hown3
          go_roundw
          case rel => exact ⟨k + 1, by omega, by go_num, by rw [← hnn2]; exact hown3, hb3⟩
          case measure => simp [intOf]; omega
    · have hkn : k = m.ins.length := by omega
      subst hkn
      have hsl9 : SlAt wr.heap.size wr av (flat Hi.cells (pl.map (hitOf m.bd))) := by
        obtain ⟨a9, cap9, e9, s9, -, -⟩ := own_at HOWN.out
        simp only [Value.slice.injEq] at e9
        obtain ⟨rfl, -, -⟩ := e9
        rw [HPL.out]
        exact s9
      have HNP : Hid (n = pl.length) := Lib.hid (by rw [HNN.out, HPL.out])
      have HRC := Lib.hid (HRUN.out wr HB.out av capv hsl9)
      have d1 : wr.cell? ⟨g, 1, none⟩ = some (.pointer (some ⟨bs, 0, none⟩)) := by rw [hb.cell (p := ⟨_, _, none⟩) hgl]; exact c1
      rw [← HNP.out] at HRC
      clear HRUN hsl9
      go_wp2_with fail
      refine HRC.out.mono ?_
      rintro e w2 ⟨v2, fs2, rfl, hown2, hokf, hb2⟩
      have he : fs = fs2 := by rw [HFE.out]; exact (runOf_eq _ _ _ HG.out hokf).symm
      subst he
      have HO9 := Lib.hid (own_mono (base := w.heap.size) hown2 hzb)
      clear hown2 hokf
      go_wp2
      go_ret
      exact ⟨_, rfl, HO9.out, bl_trans HB.out hb2⟩
end Go.Proofs.YtmeefmoblkiebaaGreat
/- Contracts: the outputs and the tables of a machine, what is asked (the program). -/
namespace Go.Proofs.YtmeefmoblkiebaaGreat
open Go.RowKit
set_option linter.unusedVariables false
set_option linter.unusedSimpArgs false
set_option maxHeartbeats 400000
set_option maxRecDepth 100000
theorem mFa_ge (m : Mc) (row : Nat) (L : List Int) (k : Nat) (hk : k < (mFa m row L).length) : -1 ≤ (mFa m row L)[k].t := runOf_ge _ _ k hk
theorem mTk_at (m : Mc) (row : Nat) (L : List Int) (k : Nat) (hk : k < m.outs.length) (f : Nat) (hf : fnd m.outs[k] m.bd.ps = (f : Int)) (hff : f < (mFa m row L).length) : (mTk m row L).getD k 0 = (mFa m row L)[f].t := by
  have h1 : k < (mTk m row L).length := by rw [mTk_len]; exact hk
  rw [getD_n _ k h1]
  have h2 : (mTk m row L)[k] = tkAt m.bd.ps (mFa m row L) m.outs[k] := by simp [mTk, tkAt]
  rw [h2]
  unfold tkAt
  rw [hf, Int.toNat_natCast, getD_fa _ f hff]
set_option maxHeartbeats 1600000 in
theorem woutputs_any (g b0 : Nat) (m : Mc) (row : Nat) (vl : Value) (L : List Int) (w : World) (h : WkAt w g b0 m) (hv : vMc m = true) (hok : m.ok) (hl : LateV w vl m.ins.length L) (hrow : row < 64) :
    Calls Tryz.prog 71 #[.pointer (some ⟨g, 0, none⟩), .int .i64 row, vl] w fun e w' => e = .returned (.int .i64 ((mOut m row L : Nat) : Int)) ∧ Below w.heap.size w w' := by
  obtain ⟨hvb, h60, hi1, hi6, ho1, ho8, -⟩ := vMc_parts m hv
  have HF := Lib.hid (wfalls_any g b0 m row vl L w h hv hok hl hrow)
  have HOV : Hid (mOut m row L = bitsTo (mTk m row L) m.outs.length) := Lib.hid rfl
  have HTA := Lib.hid (fun k hk f hf hff => mTk_at m row L k hk f hf hff)
  have HOF := Lib.hid (fun k hk => out_fnd m hv k hk)
  have HGE := Lib.hid (mFa_ge m row L)
  have HFL := Lib.hid (mFa_len m row L)
  obtain ⟨fs, hfs⟩ : ∃ fs, fs = mFa m row L := ⟨_, rfl⟩
  obtain ⟨ts, hts⟩ : ∃ ts, ts = mTk m row L := ⟨_, rfl⟩
  obtain ⟨r, hr⟩ : ∃ r, r = mOut m row L := ⟨_, rfl⟩
  rw [← hr] at HOV ⊢
  rw [← hts] at HTA HOV
  rw [← hfs] at HF HGE HFL
  have HTA2 : Hid (∀ k (hk : k < m.outs.length) (f : Nat), fnd m.outs[k] m.bd.ps = (f : Int) → ∀ (hff : f < fs.length), ts.getD k 0 = fs[f].t) := Lib.hid (by intro k hk f hf hff; rw [HTA.out k hk f hf (by rw [← hfs]; exact hff)]; simp only [hfs])
  have HMO : Hid (∀ k (hk : k < (m.outs.map (outF m.bd.ps)).length) (h2 : k < m.outs.length), (m.outs.map (outF m.bd.ps))[k] = fnd m.outs[k] m.bd.ps) := Lib.hid (by intro k hk h2; simp [outF])
  have HML : Hid ((m.outs.map (outF m.bd.ps)).length = m.outs.length) := Lib.hid (by simp)
  clear hfs hts hr HTA
  obtain ⟨hgl, c0, -, -, ⟨ao, capo, c3, hso⟩⟩ := h
  go_enter Tryz.func71, Tryz.ntmps71
  go_wp2_with fail
  refine HF.out.mono ?_
  rintro e w2 ⟨v, rfl, hown, hb2⟩
  obtain ⟨av, capv, hve, hsl, -, -⟩ := own_at hown
  subst hve
  have HB2 := Lib.hid hb2
  have d3 : w2.cell? ⟨g, 3, none⟩ = some (.slice ao m.outs.length capo) := by rw [hb2.cell (p := ⟨_, _, none⟩) hgl]; exact c3
  have hso2 := hso.below hb2 (Nat.le_refl _)
  have hz2 := hb2.size
  clear hown hb2 HF hso
  go_wp2
  go_loopw [8, 20] (fun ox ix wr => ∃ k : Nat, k ≤ m.outs.length ∧ ix = .int .i64 k ∧ ox = .int .i64 (bitsTo ts k : Int) ∧ Below w2.heap.size w2 wr) (fun _ ix _ => m.outs.length - (intOf ix).toNat)
  case atStart => exact ⟨0, by omega, rfl, rfl, Below.refl _ _⟩
  case round =>
    obtain ⟨k, hk, rfl, rfl, hb⟩ := hrel
    by_cases hlt : k < m.outs.length
    · obtain ⟨f, hf, hfl⟩ := HOF.out k hlt
      have hff : f < fs.length := by rw [HFL.out]; exact hfl
      have hkm : k < (m.outs.map (outF m.bd.ps)).length := by rw [HML.out]; exact hlt
      obtain ⟨bo, offo, rfl, hbo, hato⟩ := ints_get hso2 hkm
      rw [HMO.out k hkm hlt, hf] at hato
      have q0 : wr.cell? ⟨bo, offo + k, none⟩ = some (.int .i64 (f : Int)) := by rw [hb.cell (p := ⟨_, _, none⟩) (show bo < w2.heap.size by omega)]; exact hato
      obtain ⟨bf, offf, rfl, hbf, hatf⟩ := fas_get hsl hff
      have q1 : wr.cell? ⟨bf, offf + f * 3, none⟩ = some (.int .i64 fs[f].t) := by rw [hb.cell (p := ⟨_, _, none⟩) hbf]; exact hatf.1
      have HGD := Lib.hid (HTA2.out k hlt f hf hff)
      have hge := HGE.out f hff
      obtain ⟨T, hT⟩ : ∃ T, T = fs[f].t := ⟨_, rfl⟩
      rw [← hT] at q1 HGD hge
      have hfI : (f : Int) < fs.length := by omega
      have hk8 : k < 8 := by omega
      clear hT hato hatf hf hkm
      rcases Int.decEq T (-1) with hne | heq
      · have htc : (T != (-1 : Int)) = true := by simpa using hne
        have HS := Lib.hid (bitsTo_yes ts k (by omega) (by rw [HGD.out]; omega))
        obtain ⟨p, hp, hp1, hp2, hp3⟩ := pow_i k (by omega)
        rw [← hp3] at HS
        clear hne hge hp3
        go_wp2
        go_roundw
        case rel => exact ⟨k + 1, by omega, by go_num, by rw [← HS.out], hb⟩
        case measure => simp [intOf]; omega
      · have htc : (T != (-1 : Int)) = false := by rw [heq]; rfl
        have HS := Lib.hid (bitsTo_no ts k (by rw [HGD.out]; omega))
        clear heq hge
        go_wp2
        go_roundw
        case rel => exact ⟨k + 1, by omega, by go_num, by rw [HS.out], hb⟩
        case measure => simp [intOf]; omega
    · have hkn : k = m.outs.length := by omega
      subst hkn
      rw [← HOV.out]
      go_wp2
      go_ret
      exact ⟨rfl, bl_trans HB2.out hb⟩
theorem wrows_any (g b0 : Nat) (m : Mc) (w : World) (h : WkAt w g b0 m) (hn : m.ins.length ≤ 6) : Calls Tryz.prog 70 #[.pointer (some ⟨g, 0, none⟩)] w fun e w' => e = .returned (.int .i64 ((mRows m : Nat) : Int)) ∧ w = w' := by
  have HR := Lib.hid (fun w => rows_any m.ins.length (by omega) w)
  obtain ⟨hgl, c0, -, ⟨ai, capi, c2, -⟩, -⟩ := h
  go_enter Tryz.func70, Tryz.ntmps70
  go_wp2_with (go_at_call 77; refine (HR.out _).mono ?_; rintro e w' ⟨rfl, rfl⟩)
  go_ret
  exact ⟨rfl, rfl⟩
set_option maxHeartbeats 1600000 in
theorem wtables_any (g b0 : Nat) (m : Mc) (w : World) (h : WkAt w g b0 m) (hv : vMc m = true) (hok : m.ok) :
    Calls Tryz.prog 92 #[.pointer (some ⟨g, 0, none⟩)] w fun e w' => ∃ v, e = .returned v ∧ w'.ownsRow w.heap.size 134 1 v m.outs.length (flat U64_cells (mTabI m)) ∧ Below w.heap.size w w' := by
  obtain ⟨hvb, h60, hi1, hi6, ho1, ho8, -⟩ := vMc_parts m hv
  have HW := Lib.hid h
  have HRO := Lib.hid (fun w1 (hb : Below w.heap.size w w1) => wrows_any g b0 m w1 (h.step hb) hi6)
  have HOU := Lib.hid (fun w1 (hb : Below w.heap.size w w1) (r : Nat) (hr : r < 64) => woutputs_any g b0 m r (.slice none 0 0) (zeros m.ins.length) w1 (h.step hb) hv hok (LateV.nil w1 _) hr)
  have HTI := Lib.hid (mTabI_st m)
  have hR64 := mRows_le m hi6
  have HOL : Hid (∀ r, mOut m r (zeros m.ins.length) < 256) := Lib.hid (fun r => by
    have h1 := bitsTo_lt (mTk m r (zeros m.ins.length)) m.outs.length
    have h2 := pow_mono2 (a := m.outs.length) (b := 8) ho8
    show bitsTo _ _ < 256
    omega)
  obtain ⟨R, hRR⟩ : ∃ R, R = mRows m := ⟨_, rfl⟩
  rw [← hRR] at HTI hR64 HRO
  obtain ⟨f, hf⟩ : ∃ f : Nat → Nat, f = fun r => mOut m r (zeros m.ins.length) := ⟨_, rfl⟩
  rw [← hf] at HTI
  have HF : Hid (∀ r, mOut m r (zeros m.ins.length) = f r) := Lib.hid (fun r => by rw [hf])
  have HFL : Hid (∀ r, f r < 256) := Lib.hid (fun r => by rw [hf]; exact HOL.out r)
  generalize mTabI m = res at HTI ⊢
  clear hRR HOL hf
  obtain ⟨hgl, c0, -, -, ⟨ao, capo, c3, hso⟩⟩ := h
  obtain ⟨i0, hi0, hiz0, hiz1, hiz2⟩ := info_parts Tryz.infoUint64
  go_enter Tryz.func92, Tryz.ntmps92
  go_wp2_with (first | (go_at_call 70; refine (HRO.out _ hb2).mono ?_; rintro e w' ⟨rfl, rfl⟩) | (refine wpList_make_full _ rfl (.tmp 11) (.tmp 11) 115 rfl w.heap.size 134 i0 _ 1 Tryz.underlying115 hi0 hiz0 hiz1 _ _ _ _ m.outs.length rfl rfl rfl rfl (by rw [hiz2]; omega) (by unfold maxLen; omega) (Nat.le_refl _) ?_; intro w2 hmade hgrow; have hb2 : Below w.heap.size w w2 := bl_grown (Below.refl _ _) hgrow (by simp)))
  rw [made_rep _ rfl, ← flatU_zeros, ← tabSt_zero f] at hmade
  clear hgrow
  go_loopw [15] (fun rx wr => ∃ r : Nat, r ≤ R ∧ rx = .int .i64 r ∧ wr.ownsRow w.heap.size 134 1 (.slice (some ⟨w.heap.size, 0, none⟩) m.outs.length m.outs.length) m.outs.length (flat U64_cells (tabSt f m.outs.length r 0)) ∧ Below w.heap.size w wr) (fun rx _ => R - (intOf rx).toNat)
  case atStart => exact ⟨0, by omega, rfl, hmade, hb2⟩
  case round =>
    clear hmade hb2
    obtain ⟨r, hr, rfl, hown, hb⟩ := hrel
    by_cases hlt : r < R
    · have hltI : (r : Int) < R := by omega
      have HOC := Lib.hid (HOU.out wr hb r (by omega))
      rw [HF.out] at HOC
      have HOWN := Lib.hid hown
      have HB := Lib.hid hb
      have hlo := HFL.out r
      clear hown hb
      go_wp2_with fail
      refine HOC.out.mono ?_
      rintro e w3 ⟨rfl, hb3⟩
      have hown3 := own_below HOWN.out hb3 (Nat.le_refl _)
      have hb03 := bl_trans HB.out hb3
      clear hb3
      obtain ⟨F, hF⟩ : ∃ F, F = f r := ⟨_, rfl⟩
      rw [← hF] at hlo ⊢
      have HFF := Lib.hid hF
      clear hF
      go_wp2
      go_loopw [23] (fun ix wi => ∃ i : Nat, i ≤ m.outs.length ∧ ix = .int .i64 i ∧ wi.ownsRow w.heap.size 134 1 (.slice (some ⟨w.heap.size, 0, none⟩) m.outs.length m.outs.length) m.outs.length (flat U64_cells (tabSt f m.outs.length r i)) ∧ Below w.heap.size w wi) (fun ix _ => m.outs.length - (intOf ix).toNat)
      case atStart => exact ⟨0, by omega, rfl, hown3, hb03⟩
      case round =>
        clear hown3 hb03
        obtain ⟨i, hi, rfl, hown, hb⟩ := hrel
        by_cases hlti : i < m.outs.length
        · obtain ⟨k0, k1⟩ := u64_cell hown i (by rw [tabSt_len]; exact hlti)
          rw [tabSt_get f _ r i i hlti, if_neg (by omega)] at k0
          have HOWN := Lib.hid hown
          have hiI : (i : Int) < m.outs.length := by omega
          have hi8 : i < 8 := by omega
          have HBI := Lib.hid (fun w1 => bitI_any F i (by omega) (by omega) w1)
          cases gb : F.testBit i with
          | true =>
            rw [gb] at HBI
            have HVAL : Hid (bits .or .u64 ((tabTo f i r : Nat) : Int) (IntKind.u64.wrap (2 ^ r)) = ((tabTo f i (r + 1) : Nat) : Int)) := Lib.hid (by
              obtain ⟨p, hp, hp1, hp2, hp3, hp4⟩ := pow_63 r (by omega)
              rw [hp, hp4, hp3]
              exact tab_yes f i r (by omega) (by rw [← HFF.out]; exact gb))
            obtain ⟨T, hT⟩ : ∃ T, T = tabTo f i r := ⟨_, rfl⟩
            rw [← hT] at k0 HVAL
            clear hown hT gb
            go_wp2_with (go_at_call 124; refine (HBI.out _).mono ?_; rintro e w' ⟨rfl, rfl⟩)
            go_upto_region 10 with fail
            go_still_tail 8, (by kernel_rfl)
            change wpList _ _ _ _ _ wr.drew
            go_wp2
            have how := u64_set HOWN.out i ((tabTo f i (r + 1) : Nat) : Int)
            rw [tabSt_set f _ r i hlti] at how
            go_roundw
            case rel => exact ⟨i + 1, by omega, by go_num, by rw [HVAL.out]; exact own_below how (bl_drew (Below.refl _ _)) (Nat.le_refl _), bl_drew (bl_set hb (Nat.le_refl _) _)⟩
            case measure => simp [intOf]; omega
          | false =>
            rw [gb] at HBI
            have HNO : Hid (tabSt f m.outs.length r (i + 1) = tabSt f m.outs.length r i) := Lib.hid (by
              rw [← tabSt_set f _ r i hlti, tab_no f i r (by rw [← HFF.out]; exact gb)]
              apply List.ext_getElem (by simp)
              intro j h1 h2
              rw [List.getElem_set]
              split
              · rename_i e; subst e; rw [tabSt_get f _ r _ _ hlti, if_neg (by omega)]
              · rfl)
            clear hown gb k0 k1
            go_wp2_with (go_at_call 124; refine (HBI.out _).mono ?_; rintro e w' ⟨rfl, rfl⟩)
            go_roundw
            case rel => exact ⟨i + 1, by omega, by go_num, by rw [HNO.out]; exact HOWN.out, hb⟩
            case measure => simp [intOf]; omega
        · have hin : i = m.outs.length := by omega
          subst hin
          rw [tabSt_end] at hown
          have HOWN := Lib.hid hown
          clear hown
          go_wp2
          go_roundw
          case rel => exact ⟨r + 1, by omega, by go_num, HOWN.out, hb⟩
          case measure => simp [intOf]; omega
    · have hkn : r = R := by omega
      subst hkn
      rw [← HTI.out] at hown
      have HOWN := Lib.hid hown
      clear hown
      go_wp2
      go_ret
      exact ⟨_, rfl, HOWN.out, hb⟩
end Go.Proofs.YtmeefmoblkiebaaGreat
/- Contracts: functions of package slices over whole numbers and ports. -/
namespace Go.Proofs.YtmeefmoblkiebaaGreat
open Go.RowKit
set_option linter.unusedVariables false
set_option linter.unusedSimpArgs false
set_option maxHeartbeats 400000
set_option maxRecDepth 100000
theorem indexFuncN64_any {B : Nat} (K : Nat) (caps : Array Value) (a : Option Addr) (cap : Nat) (ps : List Int) (w : World) (hps : SlAt B w a (flat N64_cells ps)) (hB : B ≤ w.heap.size) (hn : ps.length ≤ 10000000) 
   (eg : ∀ (args : Array Value) (w : World), (callFunc K args).run Tryz.prog w = .ok (.enter K args) w) (q : Int → Bool) (hf : ∀ (p : Int) (w1 : World), Below w.heap.size w w1 → Calls Tryz.prog K (#[.int .i64 p] ++ caps) w1 fun e w' => e = .returned (.bool (q p)) ∧ Below w1.heap.size w1 w'):
    Calls Tryz.prog 174 #[.slice a ps.length cap, .func (.func K) #[] caps] w fun e w' => e = .returned (.int .i64 ((ps.findIdx? q).elim (-1) (fun n => (n : Int)))) ∧ Below w.heap.size w w' := by
  go_enter Tryz.func174, Tryz.ntmps174
  go_wp2
  go_loopw [8] (fun i wr => ∃ k : Nat, k ≤ ps.length ∧ i = .int .i64 k ∧ (ps.take k).findIdx? q = none ∧ Below w.heap.size w wr) (fun i _ => ps.length - (intOf i).toNat)
  case atStart => exact ⟨0, by omega, rfl, by simp, Below.refl _ _⟩
  case round =>
    obtain ⟨k, hk, rfl, hfi, hb⟩ := hrel
    have Hfi := Lib.hid hfi; clear hfi
    by_cases hlt : k < ps.length
    · obtain ⟨b, off, rfl, hbl, hat⟩ := n64s_get (hps.below hb hB) hlt
      unfold N64At at hat
      rw [Nat.mul_one] at hat
      have Hf := Lib.hid hf; clear hf
      go_wp2_with (refine (Hf.out ps[k] _ hb).mono ?_; rintro e w' ⟨rfl, hb2⟩)
      · have h1 : q ps[k] = true := by assumption
        go_ret
        refine ⟨?_, (by repeat (first | with_reducible exact Below.refl _ _ | with_reducible assumption | with_reducible apply bl_drewN | with_reducible apply bl_drew | with_reducible apply bl_alloc | (with_reducible refine bl_set ?_ (by first | (simp; done) | (simp; omega)) _) | with_reducible refine bl_trans ?_ (by with_reducible assumption)))⟩
        have h2 : ps.findIdx? q = some k := by
          rw [List.findIdx?_eq_some_iff_getElem]
          refine ⟨hlt, h1, fun j hj => ?_⟩
          have h3 := Hfi.out
          rw [List.findIdx?_eq_none_iff] at h3
          have := h3 ps[j] (by rw [List.mem_take_iff_getElem]; exact ⟨j, by omega, rfl⟩)
          simpa using this
        rw [h2]; rfl
      · have h1 : q ps[k] = false := by assumption
        go_roundw
        case rel => exact ⟨k + 1, by omega, by go_num, by have := Hfi.out; rw [List.take_succ_eq_append_getElem hlt, List.findIdx?_append, this]; simp [h1], (by repeat (first | with_reducible exact Below.refl _ _ | with_reducible assumption | with_reducible apply bl_drewN | with_reducible apply bl_drew | with_reducible apply bl_alloc | (with_reducible refine bl_set ?_ (by first | (simp; done) | (simp; omega)) _) | with_reducible refine bl_trans ?_ (by with_reducible assumption)))⟩
        case measure => simp [intOf]; omega
    · go_wp2
      go_ret
      refine ⟨?_, (by repeat (first | with_reducible exact Below.refl _ _ | with_reducible assumption | with_reducible apply bl_drewN | with_reducible apply bl_drew | with_reducible apply bl_alloc | (with_reducible refine bl_set ?_ (by first | (simp; done) | (simp; omega)) _) | with_reducible refine bl_trans ?_ (by with_reducible assumption)))⟩
      have h2 := Hfi.out
      rw [List.take_of_length_le (by omega)] at h2
      rw [h2]; rfl
theorem containsFuncN64_any {B : Nat} (K : Nat) (caps : Array Value) (a : Option Addr) (cap : Nat) (ps : List Int) (w : World) (hps : SlAt B w a (flat N64_cells ps)) (hB : B ≤ w.heap.size) (hn : ps.length ≤ 10000000)
   (eg : ∀ (args : Array Value) (w : World), (callFunc K args).run Tryz.prog w = .ok (.enter K args) w) (q : Int → Bool) (hf : ∀ (p : Int) (w1 : World), Below w.heap.size w w1 → Calls Tryz.prog K (#[.int .i64 p] ++ caps) w1 fun e w' => e = .returned (.bool (q p)) ∧ Below w1.heap.size w1 w') :
    Calls Tryz.prog 127 #[.slice a ps.length cap, .func (.func K) #[] caps] w fun e w' => e = .returned (.bool (ps.any q)) ∧ Below w.heap.size w w' := by
  have H := Lib.hid (indexFuncN64_any K caps a cap ps w hps hB hn eg q hf)
  have HV := Lib.hid (show decide (0 ≤ (ps.findIdx? q).elim (-1 : Int) (fun n => (n : Int))) = ps.any q by
    cases hf : ps.findIdx? q with
    | none =>
      rw [List.findIdx?_eq_none_iff] at hf
      have : ps.any q = false := by rw [Bool.eq_false_iff]; intro h; rw [List.any_eq_true] at h; obtain ⟨x, hx, hq⟩ := h; rw [hf x hx] at hq; cases hq
      rw [this]; rfl
    | some k =>
      rw [List.findIdx?_eq_some_iff_getElem] at hf
      obtain ⟨h1, h2, -⟩ := hf
      have : ps.any q = true := by rw [List.any_eq_true]; exact ⟨_, List.getElem_mem h1, h2⟩
      rw [this]; simp)
  go_enter Tryz.func127, Tryz.ntmps127
  go_wp2_with fail
  refine H.out.mono ?_
  rintro e w1 ⟨rfl, hb⟩
  go_wp2
  go_ret
  exact ⟨by rw [← HV.out]; rfl, (by repeat (first | with_reducible exact Below.refl _ _ | with_reducible assumption | with_reducible apply bl_drewN | with_reducible apply bl_drew | with_reducible apply bl_alloc | (with_reducible refine bl_set ?_ (by first | (simp; done) | (simp; omega)) _) | with_reducible refine bl_trans ?_ (by with_reducible assumption)))⟩
theorem indexFuncPo_any {B : Nat} (K : Nat) (caps : Array Value) (a : Option Addr) (cap : Nat) (ps : List Po) (w : World) (hps : SlAt B w a (flat Po.cells ps)) (hok : PosOk ps) (hB : B ≤ w.heap.size) (hn : ps.length ≤ 10000000) 
   (eg : ∀ (args : Array Value) (w : World), (callFunc K args).run Tryz.prog w = .ok (.enter K args) w) (q : Po → Bool) (hf : ∀ (p : Po) (w1 : World), p.ok → Below w.heap.size w w1 → Calls Tryz.prog K (#[p.val] ++ caps) w1 fun e w' => e = .returned (.bool (q p)) ∧ Below w1.heap.size w1 w'):
    Calls Tryz.prog 176 #[.slice a ps.length cap, .func (.func K) #[] caps] w fun e w' => e = .returned (.int .i64 ((ps.findIdx? q).elim (-1) (fun n => (n : Int)))) ∧ Below w.heap.size w w' := by
  go_enter Tryz.func176, Tryz.ntmps176
  go_wp2
  go_loopw [8] (fun i wr => ∃ k : Nat, k ≤ ps.length ∧ i = .int .i64 k ∧ (ps.take k).findIdx? q = none ∧ Below w.heap.size w wr) (fun i _ => ps.length - (intOf i).toNat)
  case atStart => exact ⟨0, by omega, rfl, by simp, Below.refl _ _⟩
  case round =>
    obtain ⟨k, hk, rfl, hfi, hb⟩ := hrel
    have Hfi := Lib.hid hfi; clear hfi
    by_cases hlt : k < ps.length
    · obtain ⟨b, off, rfl, hbl, hat⟩ := pos_get (hps.below hb hB) hlt
      unfold PoAt at hat
      have Hf := Lib.hid hf; clear hf
      go_wp2_with (refine (Hf.out ps[k] _ (hok k hlt) hb).mono ?_; rintro e w' ⟨rfl, hb2⟩)
      · have h1 : q ps[k] = true := by assumption
        go_ret
        refine ⟨?_, (by repeat (first | with_reducible exact Below.refl _ _ | with_reducible assumption | with_reducible apply bl_drewN | with_reducible apply bl_drew | with_reducible apply bl_alloc | (with_reducible refine bl_set ?_ (by first | (simp; done) | (simp; omega)) _) | with_reducible refine bl_trans ?_ (by with_reducible assumption)))⟩
        have h2 : ps.findIdx? q = some k := by
          rw [List.findIdx?_eq_some_iff_getElem]
          refine ⟨hlt, h1, fun j hj => ?_⟩
          have h3 := Hfi.out
          rw [List.findIdx?_eq_none_iff] at h3
          have := h3 ps[j] (by rw [List.mem_take_iff_getElem]; exact ⟨j, by omega, rfl⟩)
          simpa using this
        rw [h2]; rfl
      · have h1 : q ps[k] = false := by assumption
        go_roundw
        case rel => exact ⟨k + 1, by omega, by go_num, by have := Hfi.out; rw [List.take_succ_eq_append_getElem hlt, List.findIdx?_append, this]; simp [h1], (by repeat (first | with_reducible exact Below.refl _ _ | with_reducible assumption | with_reducible apply bl_drewN | with_reducible apply bl_drew | with_reducible apply bl_alloc | (with_reducible refine bl_set ?_ (by first | (simp; done) | (simp; omega)) _) | with_reducible refine bl_trans ?_ (by with_reducible assumption)))⟩
        case measure => simp [intOf]; omega
    · go_wp2
      go_ret
      refine ⟨?_, (by repeat (first | with_reducible exact Below.refl _ _ | with_reducible assumption | with_reducible apply bl_drewN | with_reducible apply bl_drew | with_reducible apply bl_alloc | (with_reducible refine bl_set ?_ (by first | (simp; done) | (simp; omega)) _) | with_reducible refine bl_trans ?_ (by with_reducible assumption)))⟩
      have h2 := Hfi.out
      rw [List.take_of_length_le (by omega)] at h2
      rw [h2]; rfl
theorem containsFuncPo_any {B : Nat} (K : Nat) (caps : Array Value) (a : Option Addr) (cap : Nat) (ps : List Po) (w : World) (hps : SlAt B w a (flat Po.cells ps)) (hok : PosOk ps) (hB : B ≤ w.heap.size) (hn : ps.length ≤ 10000000)
   (eg : ∀ (args : Array Value) (w : World), (callFunc K args).run Tryz.prog w = .ok (.enter K args) w) (q : Po → Bool) (hf : ∀ (p : Po) (w1 : World), p.ok → Below w.heap.size w w1 → Calls Tryz.prog K (#[p.val] ++ caps) w1 fun e w' => e = .returned (.bool (q p)) ∧ Below w1.heap.size w1 w') :
    Calls Tryz.prog 135 #[.slice a ps.length cap, .func (.func K) #[] caps] w fun e w' => e = .returned (.bool (ps.any q)) ∧ Below w.heap.size w w' := by
  have H := Lib.hid (indexFuncPo_any K caps a cap ps w hps hok hB hn eg q hf)
  have HV := Lib.hid (show decide (0 ≤ (ps.findIdx? q).elim (-1 : Int) (fun n => (n : Int))) = ps.any q by
    cases hf : ps.findIdx? q with
    | none =>
      rw [List.findIdx?_eq_none_iff] at hf
      have : ps.any q = false := by rw [Bool.eq_false_iff]; intro h; rw [List.any_eq_true] at h; obtain ⟨x, hx, hq⟩ := h; rw [hf x hx] at hq; cases hq
      rw [this]; rfl
    | some k =>
      rw [List.findIdx?_eq_some_iff_getElem] at hf
      obtain ⟨h1, h2, -⟩ := hf
      have : ps.any q = true := by rw [List.any_eq_true]; exact ⟨_, List.getElem_mem h1, h2⟩
      rw [this]; simp)
  go_enter Tryz.func135, Tryz.ntmps135
  go_wp2_with fail
  refine H.out.mono ?_
  rintro e w1 ⟨rfl, hb⟩
  go_wp2
  go_ret
  exact ⟨by rw [← HV.out]; rfl, (by repeat (first | with_reducible exact Below.refl _ _ | with_reducible assumption | with_reducible apply bl_drewN | with_reducible apply bl_drew | with_reducible apply bl_alloc | (with_reducible refine bl_set ?_ (by first | (simp; done) | (simp; omega)) _) | with_reducible refine bl_trans ?_ (by with_reducible assumption)))⟩
end Go.Proofs.YtmeefmoblkiebaaGreat
/- Contracts: OutputsIn, TicksIn, MachineTables (both). -/
namespace Go.Proofs.YtmeefmoblkiebaaGreat
open Go.RowKit
set_option linter.unusedVariables false
set_option linter.unusedSimpArgs false
set_option maxHeartbeats 400000
set_option maxRecDepth 100000
theorem any_not100 (late : List Int) : late.any (fun n => !in100 n) = !late.all in100 := by
  induction late with
  | nil => rfl
  | cons x l ih => rw [List.any_cons, List.all_cons, ih, Bool.not_and]
theorem lateV_of {w : World} {al : Option Addr} {capl : Nat} {late : List Int} {n : Nat} (hs : SlAt w.heap.size w al (flat N64_cells late)) (hl : late.length = n) (h1 : 1 ≤ n) (hlo : lateOk late) : LateV w (.slice al late.length capl) n late := by
  refine ⟨hl, hlo, .inr ?_⟩
  obtain ⟨b, off, rfl, -⟩ := n64s_get hs (k := 0) (by omega)
  exact ⟨_, capl, by rw [hl], hs⟩
noncomputable def oiVal (m : Mc) (row : Int) (late : List Int) : Int := if mAsk m row late = 0 then ((mOut m row.toNat late : Nat) : Int) else 0
noncomputable def tiList (m : Mc) (row : Int) (late : List Int) : List Int := if mAsk m row late = 0 then mTk m row.toNat late else []
def mCode (m : Mc) : Int := if vMc m = true then 0 else 1
noncomputable def mtList (m : Mc) : List Int := if vMc m = true then mTabI m else []
theorem tiList_len (m : Mc) (row : Int) (late : List Int) : (tiList m row late).length ≤ m.outs.length := by
  unfold tiList
  split
  · rw [mTk_len]; exact Nat.le_refl _
  · exact Nat.zero_le _
theorem mtList_len (m : Mc) : (mtList m).length ≤ m.outs.length := by
  unfold mtList
  split
  · rw [mTabI_len]; exact Nat.le_refl _
  · exact Nat.zero_le _
theorem eg_lo1 (args : Array Value) (w : World) : (callFunc 128 args).run Tryz.prog w = .ok (.enter 128 args) w := by kernel_rfl
theorem lo1_any (n : Int) (w : World) : Calls Tryz.prog 128 #[.int .i64 n] w fun e w' => e = .returned (.bool (!in100 n)) ∧ Below w.heap.size w w' := by
  have H : Hid (in100 n = inB n 0 100) := Lib.hid rfl
  generalize in100 n = r at H ⊢
  cases g : inB n 0 100 with
  | true =>
    have HR : Hid (r = true) := Lib.hid (by rw [H.out, g])
    go_enter Tryz.func128, Tryz.ntmps128
    go_wp2_with (go_at_call 64; refine (in_any _ _ _ _).mono ?_; rintro e w' ⟨rfl, rfl⟩)
    go_ret
    exact ⟨by rw [HR.out]; rfl, (by repeat (first | with_reducible exact Below.refl _ _ | with_reducible assumption | with_reducible apply bl_drewN | with_reducible apply bl_drew | with_reducible apply bl_alloc | (with_reducible refine bl_set ?_ (by first | (simp; done) | (simp; omega)) _) | with_reducible refine bl_trans ?_ (by with_reducible assumption)))⟩
  | false =>
    have HR : Hid (r = false) := Lib.hid (by rw [H.out, g])
    go_enter Tryz.func128, Tryz.ntmps128
    go_wp2_with (go_at_call 64; refine (in_any _ _ _ _).mono ?_; rintro e w' ⟨rfl, rfl⟩)
    go_ret
    exact ⟨by rw [HR.out]; rfl, (by repeat (first | with_reducible exact Below.refl _ _ | with_reducible assumption | with_reducible apply bl_drewN | with_reducible apply bl_drew | with_reducible apply bl_alloc | (with_reducible refine bl_set ?_ (by first | (simp; done) | (simp; omega)) _) | with_reducible refine bl_trans ?_ (by with_reducible assumption)))⟩
set_option maxHeartbeats 1600000 in
theorem lateOk_any (m : Mc) (v : Value) (row : Int) (al : Option Addr) (capl : Nat) (late : List Int) (w : World) (h : MVc w v m) (hok : m.ok) (hn : m.bd.ps.length ≤ 10000000) (hn1 : m.ins.length ≤ 10000000) (hn2 : m.outs.length ≤ 10000000) (hs : SlAt w.heap.size w al (flat N64_cells late)) (hln : late.length ≤ 10000000) :
    Calls Tryz.prog 76 #[v, .int .i64 row, .slice al late.length capl] w fun e w' => e = .returned (.int .i64 (mAsk m row late)) ∧ Below w.heap.size w w' := by
  have HVM := Lib.hid (fun w1 (hb : Below w.heap.size w w1) => validMachine_any m v w1 (h.step hb) hok hn hn1 hn2)
  have HASK : Hid (mAsk m row late = if vMc m = true then (if (askRow m row late && late.all in100) = true then 0 else 2) else 1) := Lib.hid rfl
  have HAR : Hid (askRow m row late = (inB row 0 ((mRows m : Nat) - 1 : Int) && decide (late.length = m.ins.length))) := Lib.hid rfl
  have HCF := Lib.hid (fun w1 (hb : Below w.heap.size w w1) => containsFuncN64_any (B := w.heap.size) 128 #[] al capl late w1 (hs.below hb (Nat.le_refl _)) hb.size hln eg_lo1 (fun n => !in100 n) (fun p w2 hb2 => lo1_any p w2))
  rw [any_not100] at HCF
  obtain ⟨sa, scap, ia, icap, oa, ocap, rfl, hcap, hps, hins, houts⟩ := h
  have HX := Lib.hid (BX5.new w (.int .i8 m.bd.wd) (.int .i8 m.bd.hg) (.slice sa m.bd.ps.length scap) (.slice ia m.ins.length icap) (.slice oa m.outs.length ocap) 55)
  have HBA := Lib.hid (show Below w.heap.size w (w.alloc (.cells #[.int .i8 m.bd.wd, .int .i8 m.bd.hg, .slice sa m.bd.ps.length scap, .slice ia m.ins.length icap, .slice oa m.outs.length ocap] 55)) from bl_alloc (Below.refl _ _))
  generalize mAsk m row late = r at HASK ⊢
  cases g0 : vMc m with
  | false =>
    rw [g0] at HVM
    have HR : Hid (r = 1) := Lib.hid (by rw [HASK.out, g0]; rfl)
    clear HASK g0 HCF
    go_enter Tryz.func76, Tryz.ntmps76
    go_wp2_with fail
    refine (HVM.out _ HBA.out).mono ?_
    rintro e w1 ⟨rfl, hb1⟩
    go_wp2
    go_ret
    exact ⟨by rw [HR.out]; rfl, bl_trans HBA.out hb1⟩
  | true =>
    rw [g0] at HVM
    obtain ⟨hvb, h60, hi1, hi6, ho1, ho8, -⟩ := vMc_parts m g0
    have HRR : Hid (r = if (askRow m row late && late.all in100) = true then 0 else 2) := Lib.hid (by rw [HASK.out, g0]; rfl)
    have HRO := Lib.hid (fun w1 => rows_any m.ins.length (by omega) w1)
    have hR64 := mRows_le m hi6
    have hR1 : 1 ≤ mRows m := Nat.one_le_two_pow
    have HRW : Hid (mRows m = 2 ^ m.ins.length) := Lib.hid rfl
    obtain ⟨R, hRR⟩ : ∃ R, R = mRows m := ⟨_, rfl⟩
    rw [← hRR] at HAR hR64 hR1 HRW
    rw [← HRW.out] at HRO
    have s1 : IntKind.i64.wrap ((R : Int) - 1) = (R : Int) - 1 := by rw [IntKind.wrap_i64]; omega
    clear HASK g0 hRR HRW
    obtain ⟨o, ho⟩ : ∃ o, o = askRow m row late := ⟨_, rfl⟩
    rw [← ho] at HAR HRR
    clear ho
    obtain ⟨p, hp⟩ : ∃ p, p = late.all in100 := ⟨_, rfl⟩
    rw [← hp] at HRR HCF
    clear hp
    cases g1 : inB row 0 ((R : Int) - 1) with
    | false =>
      have HR : Hid (r = 2) := Lib.hid (by rw [HRR.out, HAR.out, g1]; rfl)
      clear HAR HRR HCF
      go_enter Tryz.func76, Tryz.ntmps76
      go_wp2_with fail
      refine (HVM.out _ HBA.out).mono ?_
      rintro e w1 ⟨rfl, hb1⟩
      obtain ⟨-, c0, c1, c2, c3, c4⟩ := HX.out.step hb1
      go_wp2_with (first | (go_at_call 77; refine (HRO.out _).mono ?_; rintro e w' ⟨rfl, rfl⟩) | (go_at_call 64; refine (in_any _ _ _ _).mono ?_; rintro e w' ⟨rfl, rfl⟩))
      go_ret
      exact ⟨by rw [HR.out]; rfl, bl_trans HBA.out hb1⟩
    | true =>
      rcases dec_cases ((late.length : Int) = (m.ins.length : Int)) with ⟨g2, k2⟩ | ⟨g2, k2⟩
      · have g3 : ((late.length : Int) != (m.ins.length : Int)) = false := by simpa using k2
        have HRP : Hid (r = if p = true then 0 else 2) := Lib.hid (by rw [HRR.out, HAR.out, g1, decide_eq_true (by omega)]; simp)
        clear HAR HRR g2 k2
        cases p with
        | true =>
          have HR : Hid (r = 0) := Lib.hid (by rw [HRP.out]; rfl)
          clear HRP
          go_enter Tryz.func76, Tryz.ntmps76
          go_wp2_with fail
          refine (HVM.out _ HBA.out).mono ?_
          rintro e w1 ⟨rfl, hb1⟩
          obtain ⟨-, c0, c1, c2, c3, c4⟩ := HX.out.step hb1
          have HB1 := Lib.hid (bl_trans HBA.out hb1)
          go_wp2_with (first | (go_at_call 77; refine (HRO.out _).mono ?_; rintro e w' ⟨rfl, rfl⟩) | (go_at_call 64; refine (in_any _ _ _ _).mono ?_; rintro e w' ⟨rfl, rfl⟩) | (go_at_call 127; refine (HCF.out _ HB1.out).mono ?_; rintro e w2 ⟨rfl, hb2⟩))
          go_ret
          exact ⟨by rw [HR.out]; rfl, bl_trans HB1.out hb2⟩
        | false =>
          have HR : Hid (r = 2) := Lib.hid (by rw [HRP.out]; rfl)
          clear HRP
          go_enter Tryz.func76, Tryz.ntmps76
          go_wp2_with fail
          refine (HVM.out _ HBA.out).mono ?_
          rintro e w1 ⟨rfl, hb1⟩
          obtain ⟨-, c0, c1, c2, c3, c4⟩ := HX.out.step hb1
          have HB1 := Lib.hid (bl_trans HBA.out hb1)
          go_wp2_with (first | (go_at_call 77; refine (HRO.out _).mono ?_; rintro e w' ⟨rfl, rfl⟩) | (go_at_call 64; refine (in_any _ _ _ _).mono ?_; rintro e w' ⟨rfl, rfl⟩) | (go_at_call 127; refine (HCF.out _ HB1.out).mono ?_; rintro e w2 ⟨rfl, hb2⟩))
          go_ret
          exact ⟨by rw [HR.out]; rfl, bl_trans HB1.out hb2⟩
      · have g3 : ((late.length : Int) != (m.ins.length : Int)) = true := by simpa using k2
        have HR : Hid (r = 2) := Lib.hid (by rw [HRR.out, HAR.out, g1, decide_eq_false (by omega)]; rfl)
        clear HAR HRR HCF g2 k2
        go_enter Tryz.func76, Tryz.ntmps76
        go_wp2_with fail
        refine (HVM.out _ HBA.out).mono ?_
        rintro e w1 ⟨rfl, hb1⟩
        obtain ⟨-, c0, c1, c2, c3, c4⟩ := HX.out.step hb1
        go_wp2_with (first | (go_at_call 77; refine (HRO.out _).mono ?_; rintro e w' ⟨rfl, rfl⟩) | (go_at_call 64; refine (in_any _ _ _ _).mono ?_; rintro e w' ⟨rfl, rfl⟩))
        go_ret
        exact ⟨by rw [HR.out]; rfl, bl_trans HBA.out hb1⟩
theorem outputsIn_any (m : Mc) (v : Value) (row : Int) (al : Option Addr) (capl : Nat) (late : List Int) (w : World) (h : MVc w v m) (hok : m.ok) (hn : m.bd.ps.length ≤ 10000000) (hn1 : m.ins.length ≤ 10000000) (hn2 : m.outs.length ≤ 10000000) (hs : SlAt w.heap.size w al (flat N64_cells late)) (hln : late.length ≤ 10000000) :
    Calls Tryz.prog 29 #[v, .int .i64 row, .slice al late.length capl] w fun e w' => e = .returned (.tuple #[.int .i64 (oiVal m row late), .int .i64 (mAsk m row late)]) ∧ Below w.heap.size w w' := by
  have HL := Lib.hid (fun w1 (hb : Below w.heap.size w w1) => lateOk_any m v row al capl late w1 (h.step hb) hok hn hn1 hn2 ((hs.below hb (Nat.le_refl _)).mono hb.size) hln)
  obtain ⟨sa, scap, ia, icap, oa, ocap, rfl, hcap, hps, hins, houts⟩ := h
  have HM := Lib.hid (MP.new (m := m) (w := w) ⟨sa, scap, rfl, hps⟩ ⟨ia, icap, rfl, hins⟩ ⟨oa, ocap, rfl, houts⟩ 55)
  have HBA := Lib.hid (show Below w.heap.size w (w.alloc (.cells #[.int .i8 m.bd.wd, .int .i8 m.bd.hg, .slice sa m.bd.ps.length scap, .slice ia m.ins.length icap, .slice oa m.outs.length ocap] 55)) from bl_alloc (Below.refl _ _))
  have HA0 := Lib.hid (mAsk_0 m row late)
  have HOI : Hid (oiVal m row late = if mAsk m row late = 0 then ((mOut m row.toNat late : Nat) : Int) else 0) := Lib.hid rfl
  obtain ⟨c, hc⟩ : ∃ c, c = mAsk m row late := ⟨_, rfl⟩
  rw [← hc] at HL HA0 HOI ⊢
  clear hc
  by_cases hc0 : c = 0
  · obtain ⟨hv, hll, hlo, r, rfl, hr⟩ := HA0.out hc0
    obtain ⟨-, -, hi1, hi6, -⟩ := vMc_parts m hv
    have hR64 := mRows_le m hi6
    subst hc0
    have HV : Hid (oiVal m r late = ((mOut m r late : Nat) : Int)) := Lib.hid (by rw [HOI.out, if_pos rfl]; rfl)
    rw [HV.out]
    have HWK := Lib.hid (fun w1 (hb : Below (w.alloc (.cells #[.int .i8 m.bd.wd, .int .i8 m.bd.hg, .slice sa m.bd.ps.length scap, .slice ia m.ins.length icap, .slice oa m.outs.length ocap] 55)).heap.size (w.alloc (.cells #[.int .i8 m.bd.wd, .int .i8 m.bd.hg, .slice sa m.bd.ps.length scap, .slice ia m.ins.length icap, .slice oa m.outs.length ocap] 55)) w1) => worksOf_any w.heap.size m w1 (HM.out.step hb) hv hok)
    have HOU := Lib.hid (fun w1 g (hb : Below w.heap.size w w1) (hw : WkAt w1 g w.heap.size m) => woutputs_any g w.heap.size m r (.slice al late.length capl) late w1 hw hv hok (lateV_of ((hs.below hb (Nat.le_refl _)).mono hb.size) hll hi1 hlo) (by omega))
    clear HOI HV HA0 hs hll
    go_enter Tryz.func29, Tryz.ntmps29
    go_wp2_with fail
    refine (HL.out _ HBA.out).mono ?_
    rintro e w1 ⟨rfl, hb1⟩
    have HB1 := Lib.hid (bl_trans HBA.out hb1)
    have HWC := Lib.hid (HWK.out w1 hb1)
    clear hb1
    go_wp2_with fail
    refine HWC.out.mono ?_
    rintro e w2 ⟨g, rfl, hg, hwk, hb2⟩
    have HB2 := Lib.hid (bl_trans HB1.out hb2)
    have HOC := Lib.hid (HOU.out w2 g HB2.out hwk)
    clear hwk hb2
    go_wp2_with fail
    refine HOC.out.mono ?_
    rintro e w3 ⟨rfl, hb3⟩
    go_wp2
    go_ret2
    exact ⟨rfl, bl_trans HB2.out hb3⟩
  · have HV : Hid (oiVal m row late = 0) := Lib.hid (by rw [HOI.out, if_neg hc0])
    rw [HV.out]
    have gne : (c != 0) = true := by simpa using hc0
    clear HOI HV HA0 hc0 hs
    go_enter Tryz.func29, Tryz.ntmps29
    go_wp2_with fail
    refine (HL.out _ HBA.out).mono ?_
    rintro e w1 ⟨rfl, hb1⟩
    go_wp2
    go_ret2
    exact ⟨rfl, bl_trans HBA.out hb1⟩
end Go.Proofs.YtmeefmoblkiebaaGreat
/- Contracts: TicksIn, MachineTables (both). -/
namespace Go.Proofs.YtmeefmoblkiebaaGreat
open Go.RowKit
set_option linter.unusedVariables false
set_option linter.unusedSimpArgs false
set_option maxHeartbeats 400000
set_option maxRecDepth 100000
theorem machineTables_any (m : Mc) (v : Value) (w : World) (h : MVc w v m) (hok : m.ok) (hn : m.bd.ps.length ≤ 10000000) (hn1 : m.ins.length ≤ 10000000) (hn2 : m.outs.length ≤ 10000000) :
    Calls Tryz.prog 82 #[v] w fun e w' => ∃ v, e = .returned (.tuple #[v, .int .i64 (mCode m)]) ∧ w'.ownsRow w.heap.size 134 1 v (mtList m).length (flat U64_cells (mtList m)) ∧ Below w.heap.size w w' := by
  have HVM := Lib.hid (fun w1 (hb : Below w.heap.size w w1) => validMachine_any m v w1 (h.step hb) hok hn hn1 hn2)
  obtain ⟨sa, scap, ia, icap, oa, ocap, rfl, hcap, hps, hins, houts⟩ := h
  have HM := Lib.hid (MP.new (m := m) (w := w) ⟨sa, scap, rfl, hps⟩ ⟨ia, icap, rfl, hins⟩ ⟨oa, ocap, rfl, houts⟩ 55)
  have HBA := Lib.hid (show Below w.heap.size w (w.alloc (.cells #[.int .i8 m.bd.wd, .int .i8 m.bd.hg, .slice sa m.bd.ps.length scap, .slice ia m.ins.length icap, .slice oa m.outs.length ocap] 55)) from bl_alloc (Below.refl _ _))
  rcases Bool.eq_false_or_eq_true (vMc m) with g1 | g1
  · have HC : Hid (mCode m = 0) := Lib.hid (by unfold mCode; rw [if_pos g1])
    have HL : Hid (mtList m = mTabI m) := Lib.hid (by unfold mtList; rw [if_pos g1])
    have HLN : Hid ((mTabI m).length = m.outs.length) := Lib.hid (mTabI_len m)
    rw [HC.out, HL.out, HLN.out]
    rw [g1] at HVM
    have HWK := Lib.hid (fun w1 (hb : Below (w.alloc (.cells #[.int .i8 m.bd.wd, .int .i8 m.bd.hg, .slice sa m.bd.ps.length scap, .slice ia m.ins.length icap, .slice oa m.outs.length ocap] 55)).heap.size (w.alloc (.cells #[.int .i8 m.bd.wd, .int .i8 m.bd.hg, .slice sa m.bd.ps.length scap, .slice ia m.ins.length icap, .slice oa m.outs.length ocap] 55)) w1) => worksOf_any w.heap.size m w1 (HM.out.step hb) g1 hok)
    have HTB := Lib.hid (fun w1 g (hw : WkAt w1 g w.heap.size m) => wtables_any g w.heap.size m w1 hw g1 hok)
    clear g1 HC HL HLN
    go_enter Tryz.func82, Tryz.ntmps82
    go_wp2_with fail
    refine (HVM.out _ HBA.out).mono ?_
    rintro e w1 ⟨rfl, hb1⟩
    have HB1 := Lib.hid (bl_trans HBA.out hb1)
    have HWC := Lib.hid (HWK.out w1 hb1)
    clear hb1
    go_wp2_with fail
    refine HWC.out.mono ?_
    rintro e w2 ⟨g, rfl, hg, hwk, hb2⟩
    have HB2 := Lib.hid (bl_trans HB1.out hb2)
    have HTC := Lib.hid (HTB.out w2 g hwk)
    clear hwk hb2
    go_wp2_with fail
    refine HTC.out.mono ?_
    rintro e w3 ⟨v2, rfl, hown, hb3⟩
    have hown2 := own_mono (base := w.heap.size) hown HB2.out.size
    go_wp2
    go_ret2
    exact ⟨_, rfl, hown2, bl_trans HB2.out hb3⟩
  · have HC : Hid (mCode m = 1) := Lib.hid (by unfold mCode; rw [if_neg (by simp [g1])])
    have HL : Hid (mtList m = []) := Lib.hid (by unfold mtList; rw [if_neg (by simp [g1])])
    rw [HC.out, HL.out]
    rw [g1] at HVM
    clear g1 HC HL
    go_enter Tryz.func82, Tryz.ntmps82
    go_wp2_with fail
    refine (HVM.out _ HBA.out).mono ?_
    rintro e w1 ⟨rfl, hb1⟩
    have hb01 := bl_trans HBA.out hb1
    go_wp2
    go_ret2
    exact ⟨_, rfl, World.ownsRow_nil _ _ _ _, hb01⟩
end Go.Proofs.YtmeefmoblkiebaaGreat
/- Rows that are made and written; the cells outside one block. -/
namespace Go.Proofs.YtmeefmoblkiebaaGreat
open Go.RowKit
set_option linter.unusedVariables false
set_option linter.unusedSimpArgs false
set_option maxHeartbeats 400000
set_option maxRecDepth 100000
theorem make_i64 (n : Nat) (hn : n ≤ 100000) (w : World) : (Instr.makeSlice 34 (.int .i64 (n : Int)) (.int .i64 (n : Int))).run Tryz.prog w = .ok (.slice (some ⟨w.heap.size, 0, none⟩) n n) (w.alloc (.cells (madeCells (Value.int .i64 0).cells (n * 1)) 2)) := by
  obtain ⟨i0, hi, hz0, hz1, hz2⟩ := info_parts Tryz.infoInt64
  have h := run_make (P := Tryz.prog) w 34 2 i0 (.int .i64 0) Tryz.underlying34 hi hz0 .i64 .i64 n n (by omega) (by omega) (by rw [hz2]; omega) (by omega)
  rw [hz1] at h
  simpa using h
theorem n64_set {w : World} {base g n cap : Nat} {xs : List Int} (h : w.ownsRow base 2 1 (.slice (some ⟨g, 0, none⟩) n cap) n (flat N64_cells xs)) (j : Nat) (x : Int) : (w.setCell ⟨g, j, none⟩ (.int .i64 x)).ownsRow base 2 1 (.slice (some ⟨g, 0, none⟩) n cap) n (flat N64_cells (xs.set j x)) := by
  have h1 := (h.stored j (.int .i64 x)).1
  rw [flatN] at h1 ⊢
  rwa [List.map_set]
/-- The cells outside one block are as they were. -/
def LpK (g : Nat) (a b : World) : Prop := a.heap.size ≤ b.heap.size ∧ ∀ p : Addr, p.block < a.heap.size → p.block ≠ g → b.cell? p = a.cell? p
theorem LpK.refl (g : Nat) (a : World) : LpK g a a := ⟨Nat.le_refl _, fun _ _ _ => rfl⟩
theorem LpK.grown {g : Nat} {a b c : World} {row : Option Nat} (h : LpK g a b) (k : b.grownBy c row) (hr : ∀ q, row = some q → q = g) : LpK g a c :=
  ⟨Nat.le_trans h.1 k.size, fun p hp hn => (k.cell_far p (Nat.lt_of_lt_of_le hp h.1) (fun e => hn (hr _ e.symm))).trans (h.2 p hp hn)⟩
theorem grown_set (w : World) (g j : Nat) (v : Value) : w.grownBy (w.setCell ⟨g, j, none⟩ v) (some g) :=
  ⟨rfl, rfl, rfl, by simp, fun k _ hk => heap_setCell_other w ⟨g, j, none⟩ k v (fun e => hk (by simp [e]))⟩
theorem LpK.set {g : Nat} {a b : World} (h : LpK g a b) (j : Nat) (v : Value) : LpK g a (b.setCell ⟨g, j, none⟩ v) := h.grown (grown_set b g j v) (fun q e => by cases e; rfl)
theorem LpK.below {g : Nat} {a b c : World} (h : LpK g a b) (k : Below b.heap.size b c) : LpK g a c :=
  ⟨Nat.le_trans h.1 k.size, fun p hp hn => (k.cell (p := p) (Nat.lt_of_lt_of_le hp h.1)).trans (h.2 p hp hn)⟩
theorem own_made (w : World) (cur : Array Value) (n : Nat) (e : TypeId) (size base : Nat) (hb : base ≤ w.heap.size) (hm : n ≤ maxLen) (hs : cur.size = n * size) :
    (w.alloc (.cells cur e)).ownsRow base e size (.slice (some ⟨w.heap.size, 0, none⟩) n n) n cur.toList :=
  ⟨by simp [hs], .inr ⟨w.heap.size, n, cur, rfl, hb, heap_alloc_new w _, Nat.le_refl _, hm, hs, by rw [List.take_of_length_le]; simp [hs]⟩⟩
end Go.Proofs.YtmeefmoblkiebaaGreat
/- Contracts: LoadedParts (the reference). -/
namespace Go.Proofs.YtmeefmoblkiebaaGreat
open Go.RowKit
set_option linter.unusedVariables false
set_option linter.unusedSimpArgs false
set_option maxHeartbeats 400000
set_option maxRecDepth 100000
def lpAt (c : Nat → Nat → Int) (k : Nat) : Nat → Int
  | 0 => 0
  | r + 1 => lpAt c k r + c r k
def lpSt (c : Nat → Nat → Int) (n r i : Nat) : List Int := (List.range n).map (fun k => lpAt c k (if k < i then r + 1 else r))
theorem lpSt_len (c : Nat → Nat → Int) (n r i : Nat) : (lpSt c n r i).length = n := by simp [lpSt]
theorem lpSt_get (c : Nat → Nat → Int) (n r i j : Nat) (hj : j < n) : (lpSt c n r i)[j]'(by rw [lpSt_len]; exact hj) = lpAt c j (if j < i then r + 1 else r) := by simp [lpSt]
theorem lpSt_end (c : Nat → Nat → Int) (n r : Nat) : lpSt c n r n = lpSt c n (r + 1) 0 := by
  unfold lpSt
  apply List.map_congr_left
  intro j hj
  rw [List.mem_range] at hj
  rw [if_pos hj, if_neg (by omega)]
theorem lpSt_zero (c : Nat → Nat → Int) (n : Nat) : lpSt c n 0 0 = zeros n := by
  unfold lpSt zeros
  apply List.ext_getElem
  · simp
  · intro i h1 h2
    simp [lpAt]
theorem lpSt_set (c : Nat → Nat → Int) (n r i : Nat) (hi : i < n) : (lpSt c n r i).set i (lpAt c i r + c r i) = lpSt c n r (i + 1) := by
  apply List.ext_getElem
  · simp [lpSt]
  · intro j h1 h2
    have hj : j < n := by rw [lpSt_len] at h2; exact h2
    rw [List.getElem_set, lpSt_get c n r (i + 1) j hj]
    by_cases e : i = j
    · subst e; rw [if_pos rfl, if_pos (by omega)]; rfl
    · rw [if_neg e, lpSt_get c n r i j hj]
      by_cases h3 : j < i
      · rw [if_pos h3, if_pos (by omega)]
      · rw [if_neg h3, if_neg (by omega)]
theorem lpSt_same (c : Nat → Nat → Int) (n r i : Nat) (hi : i < n) (h : c r i = 0) : lpSt c n r (i + 1) = lpSt c n r i := by
  rw [← lpSt_set c n r i hi]
  apply List.ext_getElem (by simp)
  intro j h1 h2
  rw [List.getElem_set]
  split
  · rename_i e; subst e; rw [lpSt_get c n r _ _ hi, if_neg (by omega), h]; omega
  · rfl
theorem lpAt_bd (c : Nat → Nat → Int) (hc : ∀ r k, 0 ≤ c r k ∧ c r k ≤ 1) (k : Nat) : ∀ r : Nat, 0 ≤ lpAt c k r ∧ lpAt c k r ≤ r
  | 0 => ⟨Int.le_refl _, Int.le_refl _⟩
  | r + 1 => by
    have h1 := lpAt_bd c hc k r
    have h2 := hc r k
    show 0 ≤ lpAt c k r + c r k ∧ lpAt c k r + c r k ≤ ((r + 1 : Nat) : Int)
    omega
noncomputable def lpC (m : Mc) (r k : Nat) : Int := if 0 ≤ ((mFa m r (zeros m.ins.length)).getD k default).t then 1 else 0
theorem lpC_bd (m : Mc) (r k : Nat) : 0 ≤ lpC m r k ∧ lpC m r k ≤ 1 := by unfold lpC; split <;> omega
noncomputable def lpVal (m : Mc) : List Int := if vMc m = true then lpSt (lpC m) m.bd.ps.length (mRows m) 0 else []
theorem lpVal_len (m : Mc) : (lpVal m).length ≤ m.bd.ps.length := by unfold lpVal; split; rw [lpSt_len]; exact Nat.le_refl _; exact Nat.zero_le _
end Go.Proofs.YtmeefmoblkiebaaGreat
/- Contracts: RowWith (both). -/
namespace Go.Proofs.YtmeefmoblkiebaaGreat
open Go.RowKit
set_option linter.unusedVariables false
set_option linter.unusedSimpArgs false
set_option maxHeartbeats 400000
set_option maxRecDepth 100000
theorem pow_8 (k : Nat) (hk : k ≤ 8) : ∃ p : Int, (2 : Int) ^ k = p ∧ 1 ≤ p ∧ p ≤ 256 ∧ p = ((2 ^ k : Nat) : Int) := by
  have h1 := pow_mono2 (a := k) (b := 8) hk
  have h2 : 1 ≤ 2 ^ k := Nat.one_le_two_pow
  refine ⟨((2 ^ k : Nat) : Int), by simp, by omega, by omega, rfl⟩
noncomputable def rwFind (f : Nat → Nat) (v : Int) (R : Nat) : Int × Int := match (List.range R).find? (fun r => decide ((f r : Int) = v)) with | some r => ((r : Int), 0) | none => (0, 6)
theorem rwFind_yes (f : Nat → Nat) (v : Int) (R k : Nat) (hk : k < R) (hno : ∀ j, j < k → (f j : Int) ≠ v) (hv : (f k : Int) = v) : rwFind f v R = ((k : Int), 0) := by
  have h : (List.range R).find? (fun r => decide ((f r : Int) = v)) = some k := by
    rw [List.find?_range_eq_some]
    refine ⟨by simpa using hv, by simpa using hk, fun j hj => by simpa using hno j hj⟩
  unfold rwFind
  rw [h]
theorem rwFind_no (f : Nat → Nat) (v : Int) (R : Nat) (hno : ∀ j, j < R → (f j : Int) ≠ v) : rwFind f v R = (0, 6) := by
  have h : (List.range R).find? (fun r => decide ((f r : Int) = v)) = none := by
    rw [List.find?_eq_none]
    intro j hj
    simpa using hno j (by simpa using hj)
  unfold rwFind
  rw [h]
noncomputable def rwVal (m : Mc) (v : Int) : Int × Int := if vMc m = true then (if inB v 0 (((2 ^ m.outs.length : Nat) : Int) - 1) = true then rwFind (fun r => mOut m r (zeros m.ins.length)) v (mRows m) else (0, 2)) else (0, 1)
end Go.Proofs.YtmeefmoblkiebaaGreat
/- Contracts: SlowestRow (both). -/
namespace Go.Proofs.YtmeefmoblkiebaaGreat
open Go.RowKit
set_option linter.unusedVariables false
set_option linter.unusedSimpArgs false
set_option maxHeartbeats 400000
set_option maxRecDepth 100000
def srStep (r : Int) (a : Int × Int) (t : Int) : Int × Int := if a.2 < t then (r, t) else a
def srIn (ts : List Int) (r : Int) (a : Int × Int) (k : Nat) : Int × Int := (ts.take k).foldl (srStep r) a
theorem srIn_succ (ts : List Int) (r : Int) (a : Int × Int) (k : Nat) (hk : k < ts.length) : srIn ts r a (k + 1) = srStep r (srIn ts r a k) (ts.getD k 0) := by
  unfold srIn
  rw [List.take_succ_eq_append_getElem hk, List.foldl_append, getD_n _ _ hk]
  rfl
def srTo (g : Nat → List Int) : Nat → Int × Int
  | 0 => (0, -1)
  | r + 1 => srIn (g r) (r : Int) (srTo g r) (g r).length
def srOf (a : Int × Int) : Int × Int × Int := if a.2 < 0 then (0, 0, 6) else (a.1, a.2, 0)
noncomputable def srVal (m : Mc) : Int × Int × Int := if vMc m = true then srOf (srTo (fun r => mTk m r (zeros m.ins.length)) (mRows m)) else (0, 0, 1)
end Go.Proofs.YtmeefmoblkiebaaGreat
/- Contracts: lateBy (program), one late input (both). -/
namespace Go.Proofs.YtmeefmoblkiebaaGreat
open Go.RowKit
set_option linter.unusedVariables false
set_option linter.unusedSimpArgs false
set_option maxHeartbeats 400000
set_option maxRecDepth 100000
/-- The rows of late times of a choice of inputs, the first i of them laid. -/
def lbSt (n ch : Nat) (by_ : Int) (i : Nat) : List Int := (List.range n).map (fun j => if j < i ∧ ch.testBit j = true then by_ else 0)
theorem lbSt_len (n ch : Nat) (b : Int) (i : Nat) : (lbSt n ch b i).length = n := by simp [lbSt]
theorem lbSt_get (n ch : Nat) (b : Int) (i j : Nat) (hj : j < n) : (lbSt n ch b i)[j]'(by rw [lbSt_len]; exact hj) = if j < i ∧ ch.testBit j = true then b else 0 := by simp [lbSt]
theorem lbSt_zero (n ch : Nat) (b : Int) : lbSt n ch b 0 = zeros n := by
  unfold lbSt zeros
  apply List.ext_getElem
  · simp
  · intro i h1 h2
    simp
theorem lbSt_yes (n ch : Nat) (b : Int) (i : Nat) (hi : i < n) (h : ch.testBit i = true) : (lbSt n ch b i).set i b = lbSt n ch b (i + 1) := by
  apply List.ext_getElem
  · simp [lbSt]
  · intro j h1 h2
    have hj : j < n := by rw [lbSt_len] at h2; exact h2
    rw [List.getElem_set, lbSt_get n ch b (i + 1) j hj]
    by_cases e : i = j
    · subst e; rw [if_pos rfl, if_pos ⟨by omega, h⟩]
    · rw [if_neg e, lbSt_get n ch b i j hj]
      by_cases h3 : j < i
      · have h4 : j < i + 1 := by omega
        simp [h3, h4]
      · have h4 : ¬ j < i + 1 := by omega
        simp [h3, h4]
theorem lbSt_no (n ch : Nat) (b : Int) (i : Nat) (h : ch.testBit i = false) : lbSt n ch b (i + 1) = lbSt n ch b i := by
  unfold lbSt
  apply List.map_congr_left
  intro j hj
  by_cases e : j = i
  · subst e; simp [h]
  · by_cases h3 : j < i
    · have h4 : j < i + 1 := by omega
      simp [h3, h4]
    · have h4 : ¬ j < i + 1 := by omega
      simp [h3, h4]
def lbList (n ch : Nat) (b : Int) : List Int := lbSt n ch b n
theorem lbList_len (n ch : Nat) (b : Int) : (lbList n ch b).length = n := lbSt_len _ _ _ _
theorem lbList_one (n i : Nat) (b : Int) (hi : i < n) : lbList n (2 ^ i) b = (zeros n).set i b := by
  apply List.ext_getElem
  · simp [lbList, lbSt, zeros]
  · intro j h1 h2
    have hj : j < n := by rw [lbList_len] at h1; exact h1
    have e1 : (lbList n (2 ^ i) b)[j] = if j < n ∧ (2 ^ i).testBit j = true then b else 0 := lbSt_get n (2 ^ i) b n j hj
    rw [e1, List.getElem_set, Nat.testBit_two_pow]
    by_cases e : i = j
    · subst e; simp [hj]
    · simp [e, zeros]
theorem lbList_ok (n ch : Nat) (b : Int) (hb : inB b 0 100 = true) : lateOk (lbList n ch b) := by
  intro i
  have h0 : 0 ≤ b ∧ b ≤ 100 := by unfold inB at hb; simpa using hb
  by_cases hi : i < n
  · rw [getD_n _ i (by rw [lbList_len]; exact hi)]
    have e : (lbList n ch b)[i]'(by rw [lbList_len]; exact hi) = if i < n ∧ ch.testBit i = true then b else 0 := lbSt_get n ch b n i hi
    rw [e]
    split <;> omega
  · rw [List.getD_eq_getElem?_getD, List.getElem?_eq_none (by rw [lbList_len]; omega)]
    exact ⟨Int.le_refl _, by decide⟩
theorem lateBy_any (n ch : Nat) (b : Int) (w : World) (hn : n ≤ 6) (hch : ch < 9223372036854775808) :
    Calls Tryz.prog 72 #[.int .i64 (n : Int), .int .i64 (ch : Int), .int .i64 b] w fun e w' => ∃ v, e = .returned v ∧ w'.ownsRow w.heap.size 2 1 v n (flat N64_cells (lbList n ch b)) ∧ Below w.heap.size w w' := by
  obtain ⟨i0, hi0, hiz0, hiz1, hiz2⟩ := info_parts Tryz.infoInt64
  have HLB : Hid (lbList n ch b = lbSt n ch b n) := Lib.hid rfl
  obtain ⟨L, hL⟩ : ∃ L, L = lbList n ch b := ⟨_, rfl⟩
  rw [← hL] at HLB ⊢
  clear hL
  go_enter Tryz.func72, Tryz.ntmps72
  go_wp2_with (refine wpList_make_full _ rfl (.tmp 9) (.tmp 9) 34 rfl w.heap.size 2 i0 _ 1 Tryz.underlying34 hi0 hiz0 hiz1 _ _ _ _ n rfl rfl rfl rfl (by rw [hiz2]; omega) (by unfold maxLen; omega) (Nat.le_refl _) ?_; intro w2 hmade hgrow)
  rw [made_rep _ rfl, ← flat_zeros, ← lbSt_zero n ch b] at hmade
  have hb2 : Below w.heap.size w w2 := bl_grown (Below.refl _ _) hgrow (by simp)
  clear hgrow
  go_loopw [13] (fun ix wr => ∃ i : Nat, i ≤ n ∧ ix = .int .i64 i ∧ wr.ownsRow w.heap.size 2 1 (.slice (some ⟨w.heap.size, 0, none⟩) n n) n (flat N64_cells (lbSt n ch b i)) ∧ Below w.heap.size w wr) (fun ix _ => n - (intOf ix).toNat)
  case atStart => exact ⟨0, by omega, rfl, hmade, hb2⟩
  case round =>
    clear hmade hb2
    obtain ⟨i, hi, rfl, hown, hb⟩ := hrel
    by_cases hlt : i < n
    · obtain ⟨k0, k1⟩ := n64_cell hown i (by rw [lbSt_len]; exact hlt)
      have HOWN := Lib.hid hown
      have HB := Lib.hid hb
      have hiI : (i : Int) < n := by omega
      have HBI := Lib.hid (fun w1 => bitI_any ch i (by omega) (by omega) w1)
      have HYES := Lib.hid (lbSt_yes n ch b i hlt)
      have HNO := Lib.hid (lbSt_no n ch b i)
      clear hown hb
      obtain ⟨o, k0⟩ : ∃ o, wr.cell? ⟨w.heap.size, i, none⟩ = some (.int .i64 o) := ⟨_, k0⟩
      cases gb : ch.testBit i with
      | true =>
        rw [gb] at HBI
        have HV := Lib.hid (HYES.out gb)
        clear gb
        go_wp2_with (go_at_call 124; refine (HBI.out _).mono ?_; rintro e w' ⟨rfl, rfl⟩)
        have how := n64_set HOWN.out i b
        rw [HV.out] at how
        go_roundw
        case rel => exact ⟨i + 1, by omega, by go_num, how, bl_set HB.out (Nat.le_refl _) _⟩
        case measure => simp [intOf]; omega
      | false =>
        rw [gb] at HBI
        have HV := Lib.hid (HNO.out gb)
        clear gb k1 k0
        go_wp2_with (go_at_call 124; refine (HBI.out _).mono ?_; rintro e w' ⟨rfl, rfl⟩)
        go_roundw
        case rel => exact ⟨i + 1, by omega, by go_num, by rw [HV.out]; exact HOWN.out, HB.out⟩
        case measure => simp [intOf]; omega
    · have hin : i = n := by omega
      subst hin
      rw [← HLB.out] at hown
      have HOWN := Lib.hid hown
      clear hown
      go_wp2
      go_ret
      exact ⟨_, rfl, HOWN.out, hb⟩
end Go.Proofs.YtmeefmoblkiebaaGreat
/- The places at which something is so; lengths that differ. -/
namespace Go.Proofs.YtmeefmoblkiebaaGreat
open Go.RowKit
set_option linter.unusedVariables false
set_option linter.unusedSimpArgs false
set_option maxHeartbeats 400000
set_option maxRecDepth 100000
def hzTo (p : Nat → Bool) (k : Nat) : List Int := ((List.range k).filter p).map (fun (i : Nat) => (i : Int))
theorem hzTo_yes (p : Nat → Bool) (k : Nat) (h : p k = true) : hzTo p (k + 1) = hzTo p k ++ [(k : Int)] := by
  unfold hzTo
  rw [List.range_succ, List.filter_append, List.map_append]
  simp [h]
theorem hzTo_no (p : Nat → Bool) (k : Nat) (h : p k = false) : hzTo p (k + 1) = hzTo p k := by
  unfold hzTo
  rw [List.range_succ, List.filter_append, List.map_append]
  simp [h]
theorem hzTo_len (p : Nat → Bool) (k : Nat) : (hzTo p k).length ≤ k := by
  unfold hzTo
  rw [List.length_map]
  have := List.length_filter_le p (List.range k)
  simpa using this
theorem mTabs_len (m : Mc) : (mTabs m).length = m.outs.length := by simp [mTabs]
theorem neq_len {a b : Nat} (h : a ≠ b) : (((a : Int) != (b : Int)) = true) := by rw [bne_iff_ne]; omega
theorem eq_len {a b : Nat} (h : a = b) : (((a : Int) != (b : Int)) = false) := by rw [h]; simp
end Go.Proofs.YtmeefmoblkiebaaGreat
/- Contracts: HazardsIn (both). -/
namespace Go.Proofs.YtmeefmoblkiebaaGreat
open Go.RowKit
set_option linter.unusedVariables false
set_option linter.unusedSimpArgs false
set_option maxHeartbeats 400000
set_option maxRecDepth 100000
noncomputable def hzCode (m : Mc) (row b : Int) : Int := if vMc m = true then (if (inB row 0 ((mRows m : Int) - 1) && inB b 0 100) = true then 0 else 2) else 1
noncomputable def hzP (m : Mc) (r : Nat) (b : Int) (i : Nat) : Bool := (mOut m r (lbList m.ins.length (2 ^ i) b) : Int) != (mOut m r (zeros m.ins.length) : Int)
noncomputable def hzList (m : Mc) (row b : Int) : List Int := if hzCode m row b = 0 then hzTo (hzP m row.toNat b) m.ins.length else []
theorem hzList_len (m : Mc) (row b : Int) : (hzList m row b).length ≤ m.ins.length := by
  unfold hzList; split; exact hzTo_len _ _; exact Nat.zero_le _
theorem l03Late_any (b : Int) (w : World) : Calls Tryz.prog 80 #[.int .i64 b] w fun e w' => e = .returned (.bool (inB b 0 100)) ∧ w = w' := by
  have H := Lib.hid (fun w => l00In_any b 0 100 w)
  go_enter Tryz.func80, Tryz.ntmps80
  go_wp2_with (go_at_call 79; refine (H.out _).mono ?_; rintro e w' ⟨rfl, rfl⟩)
  go_ret
  exact ⟨rfl, rfl⟩
set_option maxHeartbeats 1600000 in
theorem specHazardsIn_any (m : Mc) (v : Value) (row b : Int) (w : World) (h : MV w v m) (hok : m.ok) (hn : m.bd.ps.length ≤ 10000000) (hn1 : m.ins.length ≤ 10000000) (hn2 : m.outs.length ≤ 10000000) :
    Calls Tryz.prog 31 #[v, .int .i64 row, .int .i64 b] w fun e w' => ∃ v, e = .returned (.tuple #[v, .int .i64 (hzCode m row b)]) ∧ w'.ownsRow w.heap.size 2 1 v (hzList m row b).length (flat N64_cells (hzList m row b)) ∧ Below w.heap.size w w' := by
  obtain ⟨s, si, so, rfl, h0, ⟨ai, capi, rfl, h1⟩, h2⟩ := h
  have HM := Lib.hid (MP.new (m := m) (w := w) h0 ⟨ai, capi, rfl, h1⟩ h2 55)
  have HBA := Lib.hid (show Below w.heap.size w (w.alloc (.cells #[.int .i8 m.bd.wd, .int .i8 m.bd.hg, s, .slice ai m.ins.length capi, so] 55)) from bl_alloc (Below.refl _ _))
  have HXB := Lib.hid (BX5.new w (.int .i8 m.bd.wd) (.int .i8 m.bd.hg) s (.slice ai m.ins.length capi) so 55)
  have HOK := Lib.hid (l03Ok_any w.heap.size m _ HM.out hok hn hn1 hn2)
  rcases Bool.eq_false_or_eq_true (vMc m) with g1 | g1
  · obtain ⟨-, -, hi1, hi6, ho1, ho8, -⟩ := vMc_parts m g1
    have HRO := Lib.hid (fun w1 (hb : Below (w.alloc (.cells #[.int .i8 m.bd.wd, .int .i8 m.bd.hg, s, .slice ai m.ins.length capi, so] 55)).heap.size (w.alloc (.cells #[.int .i8 m.bd.wd, .int .i8 m.bd.hg, s, .slice ai m.ins.length capi, so] 55)) w1) => l03Rows_any w.heap.size m w1 (HM.out.step hb) hi6)
    have hR64 := mRows_le m hi6
    have HIN := Lib.hid (fun w1 => l00In_any row 0 ((mRows m : Int) - 1) w1)
    have HLT := Lib.hid (fun w1 => l03Late_any b w1)
    rw [g1] at HOK
    rcases Bool.eq_false_or_eq_true (inB row 0 ((mRows m : Int) - 1) && inB b 0 100) with g2 | g2
    · have HC : Hid (hzCode m row b = 0) := Lib.hid (by unfold hzCode; rw [if_pos g1, if_pos g2])
      have HL : Hid (hzList m row b = hzTo (hzP m row.toNat b) m.ins.length) := Lib.hid (by unfold hzList; rw [if_pos HC.out])
      have g2' := g2
      rw [Bool.and_eq_true] at g2'
      have HIN2 := Lib.hid (fun w1 => g2'.1 ▸ HIN.out w1)
      have HLT2 := Lib.hid (fun w1 => g2'.2 ▸ HLT.out w1)
      obtain ⟨r, hrr⟩ : ∃ r : Nat, row = (r : Int) ∧ r < mRows m := ⟨row.toNat, by have h9 := g2'.1; unfold inB at h9; simp at h9; omega, by have h9 := g2'.1; unfold inB at h9; simp at h9; omega⟩
      obtain ⟨rfl, hr⟩ := hrr
      have HL2 : Hid (hzList m (r : Int) b = hzTo (hzP m r b) m.ins.length) := Lib.hid (by rw [HL.out]; rfl)
      rw [HC.out, HL2.out]
      have HOU := Lib.hid (fun w1 (hb : Below (w.alloc (.cells #[.int .i8 m.bd.wd, .int .i8 m.bd.hg, s, .slice ai m.ins.length capi, so] 55)).heap.size (w.alloc (.cells #[.int .i8 m.bd.wd, .int .i8 m.bd.hg, s, .slice ai m.ins.length capi, so] 55)) w1) (L : List Int) (hl : L.length = m.ins.length) (hlo : lateOk L) a (hs : SlAt w1.heap.size w1 a (flat N64_cells L)) => l03Outputs_any (B := w1.heap.size) w.heap.size m r a m.ins.length L w1 (HM.out.step hb) g1 hok hl hlo hs (Nat.le_refl _) (by omega))
      have HLO := Lib.hid (fun i => lbList_ok m.ins.length (2 ^ i) b g2'.2)
      have HPE : Hid (∀ i, hzP m r b i = ((mOut m r (lbList m.ins.length (2 ^ i) b) : Int) != (mOut m r (zeros m.ins.length) : Int))) := Lib.hid (fun i => rfl)
      obtain ⟨R, hRR⟩ : ∃ R, R = mRows m := ⟨_, rfl⟩
      rw [← hRR] at HRO HIN2 hR64
      obtain ⟨p, hp⟩ : ∃ p, p = hzP m r b := ⟨_, rfl⟩
      rw [← hp] at HPE ⊢
      obtain ⟨f, hf⟩ : ∃ f : List Int → Nat, f = mOut m r := ⟨_, rfl⟩
      rw [← hf] at HOU HPE
      have HLN := Lib.hid (hzTo_len p)
      clear hRR hp hf HIN HLT HC HL HL2 g1 g2 g2'
      obtain ⟨i0, hi0, hiz0, hiz1, hiz2⟩ := info_parts Tryz.infoInt64
      go_enter Tryz.func31, Tryz.ntmps31
      go_wp2_with fail
      refine HOK.out.mono ?_
      rintro e w1 ⟨rfl, hb1⟩
      have HB1 := Lib.hid hb1
      have X1 := HXB.out.step hb1
      obtain ⟨X0, -, -, -, x3, -⟩ := X1
      clear hb1
      go_wp2_with (first | (go_at_call 74; refine (HRO.out _ HB1.out).mono ?_; rintro e w' ⟨rfl, rfl⟩) | (go_at_call 79; refine (HIN2.out _).mono ?_; rintro e w' ⟨rfl, rfl⟩) | (go_at_call 80; refine (HLT2.out _).mono ?_; rintro e w' ⟨rfl, rfl⟩) | (refine wpList_make_full _ rfl (.tmp 29) (.tmp 29) 34 rfl w1.heap.size 2 i0 _ 1 Tryz.underlying34 hi0 hiz0 hiz1 _ _ _ _ m.ins.length rfl rfl rfl rfl (by rw [hiz2]; omega) (by unfold maxLen; omega) (Nat.le_refl _) ?_; intro w2 hmade hgrow))
      rw [made_rep _ rfl, ← flat_zeros] at hmade
      have hb2 : Below w1.heap.size w1 w2 := bl_grown (Below.refl _ _) hgrow (by simp)
      have HB2 := Lib.hid (bl_trans HB1.out hb2)
      have y3 : w2.cell? ⟨w.heap.size, 3, none⟩ = some (.slice ai m.ins.length capi) := by rw [hb2.cell (p := ⟨w.heap.size, 3, none⟩) X0]; exact x3
      have hq2 : w.heap.size < w2.heap.size := Nat.lt_of_lt_of_le X0 hb2.size
      have HOC := Lib.hid (HOU.out w2 HB2.out (zeros m.ins.length) (by simp [zeros]) (zeros_ok _) _ (own_sl hmade))
      clear hmade hgrow hb2 x3 X0
      refine HOC.out.mono ?_
      rintro e w3 ⟨rfl, hb3⟩
      have HB3 := Lib.hid (bl_trans HB2.out hb3)
      have z3 : w3.cell? ⟨w.heap.size, 3, none⟩ = some (.slice ai m.ins.length capi) := by rw [hb3.cell (p := ⟨w.heap.size, 3, none⟩) hq2]; exact y3
      have hq3 : w.heap.size < w3.heap.size := Nat.lt_of_lt_of_le hq2 hb3.size
      have hown0 := World.ownsRow_made (e := 2) (size := 1) w3 #[] 0 (Nat.le_refl _) (by simp [maxLen]) rfl
      have hb0 : Below w3.heap.size w3 (w3.alloc (.cells #[] 2)) := bl_alloc (Below.refl _ _)
      obtain ⟨P, hP⟩ : ∃ P : Int, P = ((f (zeros m.ins.length) : Nat) : Int) := ⟨_, rfl⟩
      rw [← hP] at HPE ⊢
      have HO0 := Lib.hid hown0
      have HBO := Lib.hid hb0
      clear hb3 y3 hq2 HOC hP hown0 hb0
      go_wp2
      go_loopw [9, 10] (fun v ix wr => ∃ i : Nat, i ≤ m.ins.length ∧ ix = .int .i64 i ∧ wr.ownsRow w3.heap.size 2 1 v (hzTo p i).length (flat N64_cells (hzTo p i)) ∧ Below w3.heap.size w3 wr) (fun _ ix _ => m.ins.length - (intOf ix).toNat)
      case atStart => exact ⟨0, by omega, rfl, HO0.out, HBO.out⟩
      case round =>
        obtain ⟨i, hi, rfl, hown, hb⟩ := hrel
        obtain ⟨av2, capv2, hve, -, -, -⟩ := own_at hown
        subst hve
        have HOWN := Lib.hid hown
        have hzb := hb.size
        have HBB := Lib.hid hb
        have HBW := Lib.hid (bl_trans HB3.out hb)
        have r3 : wr.cell? ⟨w.heap.size, 3, none⟩ = some (.slice ai m.ins.length capi) := by rw [hb.cell (p := ⟨w.heap.size, 3, none⟩) hq3]; exact z3
        have hle := HLN.out i
        obtain ⟨nn, hnn⟩ : ∃ nn, nn = (hzTo p i).length := ⟨_, rfl⟩
        rw [← hnn] at HOWN hle ⊢
        have HNN := Lib.hid hnn
        clear hown hb hnn
        by_cases hlt : i < m.ins.length
        · have hiI : (i : Int) < m.ins.length := by omega
          have HL1 := Lib.hid (lbList_one m.ins.length i b hlt)
          have HPI := Lib.hid (HPE.out i)
          have HLB := Lib.hid (lbList_len m.ins.length (2 ^ i) b)
          have HLK := Lib.hid (HLO.out i)
          obtain ⟨L, hL⟩ : ∃ L, L = lbList m.ins.length (2 ^ i) b := ⟨_, rfl⟩
          rw [← hL] at HL1 HPI HLB HLK
          clear hL
          go_wp2_with (refine wpList_make_full _ rfl (.tmp 42) (.tmp 42) 34 rfl wr.heap.size 2 i0 _ 1 Tryz.underlying34 hi0 hiz0 hiz1 _ _ _ _ m.ins.length rfl rfl rfl rfl (by rw [hiz2]; omega) (by unfold maxLen; omega) (Nat.le_refl _) ?_; intro w5 hmade hgrow; rw [made_rep _ rfl, ← flat_zeros] at hmade; obtain ⟨kz, kf⟩ := n64_cell hmade i (by simp [zeros]; omega); obtain ⟨o, kz⟩ : ∃ o, w5.cell? ⟨wr.heap.size, i, none⟩ = some (.int .i64 o) := ⟨_, kz⟩)
          have hb5 : Below wr.heap.size wr w5 := bl_grown (Below.refl _ _) hgrow (by simp)
          have how := n64_set hmade i b
          rw [← HL1.out] at how
          have hb6 : Below wr.heap.size wr (w5.setCell ⟨wr.heap.size, i, none⟩ (.int .i64 b)) := bl_set hb5 (Nat.le_refl _) _
          have HOC := Lib.hid (HOU.out _ (bl_trans HBW.out hb6) L HLB.out HLK.out _ (own_sl how))
          have HB6 := Lib.hid hb6
          clear hb5 how hb6 kz kf hmade hgrow
          refine HOC.out.mono ?_
          rintro e w7 ⟨rfl, hb7⟩
          have HB7 := Lib.hid (bl_trans HB6.out hb7)
          clear hb7 HOC
          obtain ⟨F, hF⟩ : ∃ F : Int, F = ((f L : Nat) : Int) := ⟨_, rfl⟩
          rw [← hF] at HPI ⊢
          have HO7 := Lib.hid (own_below HOWN.out HB7.out (Nat.le_refl _))
          have HBB7 := Lib.hid (bl_trans HBB.out HB7.out)
          have hz7 := HBB7.out.size
          clear hF
          rcases Bool.eq_false_or_eq_true (F != P) with gp | gp
          · have HY : Hid (hzTo p (i + 1) = hzTo p i ++ [(i : Int)]) := Lib.hid (hzTo_yes p i (by rw [HPI.out]; exact gp))
            go_wp2_with (at_builtin; go_must (refine wpList_append_sl _ rfl _ _ 34 rfl w3.heap.size 2 i0 (.int .i64 0) 1 8 Tryz.underlying34 hi0 hiz0 hiz1 hiz2 rfl (by decide) _ _ _ rfl (own_below HO7.out (bl_alloc (Below.refl _ _)) (Nat.le_refl _)) (some ⟨w7.heap.size, 0, none⟩) 1 1 [.int .i64 (i : Int)] rfl (sl_newC w7 #[.int .i64 (i : Int)] 2 _ rfl) rfl (by intro u hu; rw [List.mem_singleton] at hu; subst hu; rfl) (by unfold maxLen; omega) (by omega) (by simp; omega) ?_); intro v4 w8 hown3 hgrow; obtain ⟨g4, cap4, rfl, hg4⟩ := own_some hown3)
            have hb8 : Below w3.heap.size w3 w8 := (bl_alloc (o := .cells #[.int .i64 (i : Int)] 2) HBB7.out).grown hgrow (by simp; omega) (fun q hq => (HO7.out.lt q hq).1)
            have hown5 : w8.ownsRow w3.heap.size 2 1 (.slice (some ⟨g4, 0, none⟩) (nn + 1) cap4) (hzTo p (i + 1)).length (flat N64_cells (hzTo p (i + 1))) := by
              rw [HY.out, flat_append, List.length_append, ← HNN.out]; exact hown3
            go_roundw
            case rel => exact ⟨i + 1, by omega, by go_num, hown5, hb8⟩
            case measure => simp [intOf]; omega
          · have HY : Hid (hzTo p (i + 1) = hzTo p i) := Lib.hid (hzTo_no p i (by rw [HPI.out]; exact gp))
            go_wp2
            go_roundw
            case rel => exact ⟨i + 1, by omega, by go_num, by rw [HY.out, ← HNN.out]; exact HO7.out, HBB7.out⟩
            case measure => simp [intOf]; omega
        · have hin : i = m.ins.length := by omega
          have HIE := Lib.hid hin
          have hown2 := own_mono (base := w.heap.size) HOWN.out (Nat.le_of_lt hq3)
          have HOW2 := Lib.hid hown2
          clear hown2
          subst hin
          go_wp2
          go_ret2
          exact ⟨_, rfl, by rw [← HNN.out]; exact HOW2.out, bl_trans HBA.out HBW.out⟩
    · have HC : Hid (hzCode m row b = 2) := Lib.hid (by unfold hzCode; rw [if_pos g1, if_neg (by simp [g2])])
      have HL : Hid (hzList m row b = []) := Lib.hid (by unfold hzList; rw [if_neg (by rw [HC.out]; omega)])
      rw [HC.out, HL.out]
      obtain ⟨R, hRR⟩ : ∃ R, R = mRows m := ⟨_, rfl⟩
      rw [← hRR] at HRO HIN hR64 g2
      clear hRR HC HL g1
      cases g3 : inB row 0 ((R : Int) - 1) with
      | false =>
        have HIN2 := Lib.hid (fun w1 => g3 ▸ HIN.out w1)
        clear g2 g3 HIN HLT
        go_enter Tryz.func31, Tryz.ntmps31
        go_wp2_with fail
        refine HOK.out.mono ?_
        rintro e w1 ⟨rfl, hb1⟩
        have hb01 := bl_trans HBA.out hb1
        have HB1 := Lib.hid hb1
        have hown := World.ownsRow_made (e := 2) (size := 1) w1 #[] 0 (Nat.le_refl _) (by simp [maxLen]) rfl
        have hown2 := own_mono (base := w.heap.size) hown hb01.size
        have HRET := Lib.hid (And.intro hown2 (bl_alloc (o := .cells #[] 2) hb01))
        clear hb1 hb01 hown hown2
        go_wp2_with (first | (go_at_call 74; refine (HRO.out _ HB1.out).mono ?_; rintro e w' ⟨rfl, rfl⟩) | (go_at_call 79; refine (HIN2.out _).mono ?_; rintro e w' ⟨rfl, rfl⟩))
        go_ret2
        exact ⟨_, rfl, HRET.out.1, HRET.out.2⟩
      | true =>
        rw [g3, Bool.true_and] at g2
        have HIN2 := Lib.hid (fun w1 => g3 ▸ HIN.out w1)
        have HLT2 := Lib.hid (fun w1 => g2 ▸ HLT.out w1)
        clear g2 g3 HIN HLT
        go_enter Tryz.func31, Tryz.ntmps31
        go_wp2_with fail
        refine HOK.out.mono ?_
        rintro e w1 ⟨rfl, hb1⟩
        have hb01 := bl_trans HBA.out hb1
        have HB1 := Lib.hid hb1
        have hown := World.ownsRow_made (e := 2) (size := 1) w1 #[] 0 (Nat.le_refl _) (by simp [maxLen]) rfl
        have hown2 := own_mono (base := w.heap.size) hown hb01.size
        have HRET := Lib.hid (And.intro hown2 (bl_alloc (o := .cells #[] 2) hb01))
        clear hb1 hb01 hown hown2
        go_wp2_with (first | (go_at_call 74; refine (HRO.out _ HB1.out).mono ?_; rintro e w' ⟨rfl, rfl⟩) | (go_at_call 79; refine (HIN2.out _).mono ?_; rintro e w' ⟨rfl, rfl⟩) | (go_at_call 80; refine (HLT2.out _).mono ?_; rintro e w' ⟨rfl, rfl⟩))
        go_ret2
        exact ⟨_, rfl, HRET.out.1, HRET.out.2⟩
  · have HC : Hid (hzCode m row b = 1) := Lib.hid (by unfold hzCode; rw [if_neg (by simp [g1])])
    have HL : Hid (hzList m row b = []) := Lib.hid (by unfold hzList; rw [if_neg (by rw [HC.out]; omega)])
    rw [HC.out, HL.out]
    rw [g1] at HOK
    clear g1 HC HL
    go_enter Tryz.func31, Tryz.ntmps31
    go_wp2_with fail
    refine HOK.out.mono ?_
    rintro e w1 ⟨rfl, hb1⟩
    have hb01 := bl_trans HBA.out hb1
    have hown := World.ownsRow_made (e := 2) (size := 1) w1 #[] 0 (Nat.le_refl _) (by simp [maxLen]) rfl
    have hown2 := own_mono (base := w.heap.size) hown hb01.size
    go_wp2
    go_ret2
    exact ⟨_, rfl, hown2, bl_alloc hb01⟩
end Go.Proofs.YtmeefmoblkiebaaGreat
/- Contracts: HazardsIn (the program). -/
namespace Go.Proofs.YtmeefmoblkiebaaGreat
open Go.RowKit
set_option linter.unusedVariables false
set_option linter.unusedSimpArgs false
set_option maxHeartbeats 400000
set_option maxRecDepth 100000
set_option maxHeartbeats 1600000 in
theorem hazardsIn_any (m : Mc) (v : Value) (row b : Int) (w : World) (h : MVc w v m) (hok : m.ok) (hn : m.bd.ps.length ≤ 10000000) (hn1 : m.ins.length ≤ 10000000) (hn2 : m.outs.length ≤ 10000000) :
    Calls Tryz.prog 30 #[v, .int .i64 row, .int .i64 b] w fun e w' => ∃ v, e = .returned (.tuple #[v, .int .i64 (hzCode m row b)]) ∧ w'.ownsRow w.heap.size 2 1 v (hzList m row b).length (flat N64_cells (hzList m row b)) ∧ Below w.heap.size w w' := by
  have HVM := Lib.hid (fun w1 (hb : Below w.heap.size w w1) => validMachine_any m v w1 (h.step hb) hok hn hn1 hn2)
  obtain ⟨sa, scap, ia, icap, oa, ocap, rfl, hcap, hps, hins, houts⟩ := h
  have HM := Lib.hid (MP.new (m := m) (w := w) ⟨sa, scap, rfl, hps⟩ ⟨ia, icap, rfl, hins⟩ ⟨oa, ocap, rfl, houts⟩ 55)
  have HBA := Lib.hid (show Below w.heap.size w (w.alloc (.cells #[.int .i8 m.bd.wd, .int .i8 m.bd.hg, .slice sa m.bd.ps.length scap, .slice ia m.ins.length icap, .slice oa m.outs.length ocap] 55)) from bl_alloc (Below.refl _ _))
  have HXB := Lib.hid (BX5.new w (.int .i8 m.bd.wd) (.int .i8 m.bd.hg) (.slice sa m.bd.ps.length scap) (.slice ia m.ins.length icap) (.slice oa m.outs.length ocap) 55)
  rcases Bool.eq_false_or_eq_true (vMc m) with g1 | g1
  · obtain ⟨-, -, hi1, hi6, ho1, ho8, -⟩ := vMc_parts m g1
    have HIR := Lib.hid (fun w1 => rows_any m.ins.length (by omega) w1)
    have HRE : Hid (((2 ^ m.ins.length : Nat) : Int) = ((mRows m : Nat) : Int)) := Lib.hid rfl
    rw [HRE.out] at HIR
    have hR64 := mRows_le m hi6
    have HIN := Lib.hid (fun w1 => in_any row 0 ((mRows m : Int) - 1) w1)
    have HLT := Lib.hid (fun w1 => in_any b 0 100 w1)
    rw [g1] at HVM
    rcases Bool.eq_false_or_eq_true (inB row 0 ((mRows m : Int) - 1) && inB b 0 100) with g2 | g2
    · have HC : Hid (hzCode m row b = 0) := Lib.hid (by unfold hzCode; rw [if_pos g1, if_pos g2])
      have HL : Hid (hzList m row b = hzTo (hzP m row.toNat b) m.ins.length) := Lib.hid (by unfold hzList; rw [if_pos HC.out])
      have g2' := g2
      rw [Bool.and_eq_true] at g2'
      have g3 := g2'.1
      have g4 := g2'.2
      obtain ⟨r, hrr⟩ : ∃ r : Nat, row = (r : Int) ∧ r < mRows m := ⟨row.toNat, by have h9 := g2'.1; unfold inB at h9; simp at h9; omega, by have h9 := g2'.1; unfold inB at h9; simp at h9; omega⟩
      obtain ⟨rfl, hr⟩ := hrr
      have HL2 : Hid (hzList m (r : Int) b = hzTo (hzP m r b) m.ins.length) := Lib.hid (by rw [HL.out]; rfl)
      rw [HC.out, HL2.out]
      have HWK := Lib.hid (fun w1 (hb : Below (w.alloc (.cells #[.int .i8 m.bd.wd, .int .i8 m.bd.hg, .slice sa m.bd.ps.length scap, .slice ia m.ins.length icap, .slice oa m.outs.length ocap] 55)).heap.size (w.alloc (.cells #[.int .i8 m.bd.wd, .int .i8 m.bd.hg, .slice sa m.bd.ps.length scap, .slice ia m.ins.length icap, .slice oa m.outs.length ocap] 55)) w1) => worksOf_any w.heap.size m w1 (HM.out.step hb) g1 hok)
      have HO0 := Lib.hid (fun w1 g (hw : WkAt w1 g w.heap.size m) => woutputs_any g w.heap.size m r (.slice none 0 0) (zeros m.ins.length) w1 hw g1 hok (LateV.nil w1 _) (by omega))
      have HOU := Lib.hid (fun w1 g (hw : WkAt w1 g w.heap.size m) (L : List Int) (hl : L.length = m.ins.length) (hlo : lateOk L) al capl (hs : SlAt w1.heap.size w1 al (flat N64_cells L)) => woutputs_any g w.heap.size m r (.slice al m.ins.length capl) L w1 hw g1 hok (by have h9 := lateV_of (capl := capl) hs hl hi1 hlo; rwa [hl] at h9) (by omega))
      have HLO := Lib.hid (fun i => lbList_ok m.ins.length (2 ^ i) b g2'.2)
      have HPE : Hid (∀ i, hzP m r b i = ((mOut m r (lbList m.ins.length (2 ^ i) b) : Int) != (mOut m r (zeros m.ins.length) : Int))) := Lib.hid (fun i => rfl)
      obtain ⟨R, hRR⟩ : ∃ R, R = mRows m := ⟨_, rfl⟩
      rw [← hRR] at HIR g3 hR64
      have hR1 : 1 ≤ R := by rw [hRR]; omega
      obtain ⟨p, hp⟩ : ∃ p, p = hzP m r b := ⟨_, rfl⟩
      rw [← hp] at HPE ⊢
      obtain ⟨f, hf⟩ : ∃ f : List Int → Nat, f = mOut m r := ⟨_, rfl⟩
      rw [← hf] at HOU HO0 HPE
      have HLN := Lib.hid (hzTo_len p)
      clear hRR hp hf HC HL HL2 g1 g2 g2' HRE HIN HLT
      obtain ⟨i0, hi0, hiz0, hiz1, hiz2⟩ := info_parts Tryz.infoInt64
      go_enter Tryz.func30, Tryz.ntmps30
      go_wp2_with fail
      refine (HVM.out _ HBA.out).mono ?_
      rintro e w1 ⟨rfl, hb1⟩
      have HB1 := Lib.hid hb1
      obtain ⟨X0, -, -, -, x3, -⟩ := HXB.out.step hb1
      clear hb1
      go_wp2_with (first | (go_at_call 77; refine (HIR.out _).mono ?_; rintro e w' ⟨rfl, rfl⟩) | (go_at_call 64; refine (in_any _ _ _ _).mono ?_; rintro e w' ⟨rfl, rfl⟩))
      refine (HWK.out w1 HB1.out).mono ?_
      rintro e w2 ⟨g, rfl, hg, hwk, hb2⟩
      have HB2 := Lib.hid (bl_trans HB1.out hb2)
      have y3 : w2.cell? ⟨w.heap.size, 3, none⟩ = some (.slice ia m.ins.length icap) := by rw [hb2.cell (p := ⟨w.heap.size, 3, none⟩) X0]; exact x3
      have hq2 : w.heap.size < w2.heap.size := Nat.lt_of_lt_of_le X0 hb2.size
      have HBX := Lib.hid (show Below w2.heap.size w2 (w2.alloc (.cells #[] 2)) from bl_alloc (Below.refl _ _))
      have hown0 := World.ownsRow_made (e := 2) (size := 1) w2 #[] 0 (Nat.le_refl _) (by simp [maxLen]) rfl
      have HOC := Lib.hid (HO0.out (w2.alloc (.cells #[] 2)) g (hwk.step HBX.out))
      have HW2 := Lib.hid hwk
      have hgl2 := hwk.1
      clear hwk hb2 x3 X0 HWK
      go_wp2_with fail
      refine HOC.out.mono ?_
      rintro e w3 ⟨rfl, hb3⟩
      have hb23 := bl_trans HBX.out hb3
      have HB3 := Lib.hid (bl_trans HB2.out hb23)
      have z3 : w3.cell? ⟨w.heap.size, 3, none⟩ = some (.slice ia m.ins.length icap) := by rw [hb23.cell (p := ⟨w.heap.size, 3, none⟩) hq2]; exact y3
      have HO1 := Lib.hid (own_below hown0 hb3 (Nat.le_refl _))
      have HB23 := Lib.hid hb23
      obtain ⟨P, hP⟩ : ∃ P : Int, P = ((f (zeros m.ins.length) : Nat) : Int) := ⟨_, rfl⟩
      rw [← hP] at HPE ⊢
      clear hb3 hb23 hown0 HOC y3 hP
      go_wp2
      go_loopw [9, 38] (fun v ix wr => ∃ i : Nat, i ≤ m.ins.length ∧ ix = .int .i64 i ∧ wr.ownsRow w2.heap.size 2 1 v (hzTo p i).length (flat N64_cells (hzTo p i)) ∧ Below w2.heap.size w2 wr) (fun _ ix _ => m.ins.length - (intOf ix).toNat)
      case atStart => exact ⟨0, by omega, rfl, HO1.out, HB23.out⟩
      case round =>
        obtain ⟨i, hi, rfl, hown, hb⟩ := hrel
        obtain ⟨av2, capv2, hve, -, -, -⟩ := own_at hown
        subst hve
        have HOWN := Lib.hid hown
        have hzb := hb.size
        have HBB := Lib.hid hb
        have HWR := Lib.hid (HW2.out.step hb)
        have hle := HLN.out i
        obtain ⟨nn, hnn⟩ : ∃ nn, nn = (hzTo p i).length := ⟨_, rfl⟩
        rw [← hnn] at HOWN hle ⊢
        have HNN := Lib.hid hnn
        by_cases hlt : i < m.ins.length
        · have hiI : (i : Int) < m.ins.length := by omega
          have HPI := Lib.hid (HPE.out i)
          have HLB := Lib.hid (lbList_len m.ins.length (2 ^ i) b)
          have HLK := Lib.hid (HLO.out i)
          obtain ⟨q, hq, hq1, hq2', hq3⟩ := pow_i i (by omega)
          have HCK := Lib.hid (fun w1 => lateBy_any m.ins.length (2 ^ i) b w1 (by omega) (by omega))
          rw [← hq3] at HCK
          obtain ⟨L, hL⟩ : ∃ L, L = lbList m.ins.length (2 ^ i) b := ⟨_, rfl⟩
          rw [← hL] at HPI HLB HLK HCK
          have HCL := Lib.hid (fun w1 al capl (hb1 : Below wr.heap.size wr w1) (hs : SlAt w1.heap.size w1 al (flat N64_cells L)) => HOU.out w1 g (HWR.out.step hb1) L HLB.out HLK.out al capl hs)
          obtain ⟨hgl, c0, -, ⟨ah, caph, c2, -⟩, -⟩ := HWR.out
          obtain ⟨F, hF⟩ : ∃ F : Int, F = ((f L : Nat) : Int) := ⟨_, rfl⟩
          rw [← hF] at HPI HCL
          clear hown hb hnn hL hF hq3
          have hwq : IntKind.i64.wrap q = q := wrap_i64' q (by omega) (by omega)
          go_wp2_with fail
          go_region_held3 (fun w' => Below wr.heap.size wr w' ∧ ∀ b o, b < wr.heap.size → w'.cell? ⟨b, o, none⟩ = wr.cell? ⟨b, o, none⟩) ((refine ext_s ?_; exact (by repeat (first | with_reducible exact Below.refl _ _ | with_reducible assumption | with_reducible apply bl_drewN | with_reducible apply bl_drew | with_reducible apply bl_alloc | (with_reducible refine bl_set ?_ (by first | (simp; done) | (simp; omega)) _) | with_reducible refine bl_trans ?_ (by with_reducible assumption))))) (first | (go_at_call 72; refine (HCK.out _).mono ?_; rintro e wa ⟨va, rfl, Oa, ba⟩; obtain ⟨al, capl, rfl, hsl, -⟩ := own_at Oa; have bwa : Below wr.heap.size wr wa := (by repeat (first | with_reducible exact Below.refl _ _ | with_reducible assumption | with_reducible apply bl_drewN | with_reducible apply bl_drew | with_reducible apply bl_alloc | (with_reducible refine bl_set ?_ (by first | (simp; done) | (simp; omega)) _) | with_reducible refine bl_trans ?_ (by with_reducible assumption))); obtain ⟨hca, hfa⟩ := bcell bwa) | (go_at_call 71; refine (HCL.out _ _ _ bwa hsl).mono ?_; rintro e w7 ⟨rfl, hb7⟩; have bw7 : Below wr.heap.size wr w7 := bl_trans bwa hb7))
          have HBB7 := Lib.hid (bl_trans HBB.out bw7)
          have HO7 := Lib.hid (own_below HOWN.out bw7 (Nat.le_refl _))
          have hz7 := HBB7.out.size
          rcases Bool.eq_false_or_eq_true (F != P) with gp | gp
          · have HY : Hid (hzTo p (i + 1) = hzTo p i ++ [(i : Int)]) := Lib.hid (hzTo_yes p i (by rw [HPI.out]; exact gp))
            go_wp2_with (at_builtin; go_must (refine wpList_append_sl _ rfl _ _ 34 rfl w2.heap.size 2 i0 (.int .i64 0) 1 8 Tryz.underlying34 hi0 hiz0 hiz1 hiz2 rfl (by decide) _ _ _ rfl (own_below HO7.out (bl_alloc (Below.refl _ _)) (Nat.le_refl _)) (some ⟨w7.heap.size, 0, none⟩) 1 1 [.int .i64 (i : Int)] rfl (sl_newC w7 #[.int .i64 (i : Int)] 2 _ rfl) rfl (by intro u hu; rw [List.mem_singleton] at hu; subst hu; rfl) (by unfold maxLen; omega) (by omega) (by simp; omega) ?_); intro v4 w8 hown3 hgrow; obtain ⟨g4, cap4, rfl, hg4⟩ := own_some hown3)
            have hb8 : Below w2.heap.size w2 w8 := (bl_alloc (o := .cells #[.int .i64 (i : Int)] 2) HBB7.out).grown hgrow (by simp; omega) (fun q hq => (HO7.out.lt q hq).1)
            have hown5 : w8.ownsRow w2.heap.size 2 1 (.slice (some ⟨g4, 0, none⟩) (nn + 1) cap4) (hzTo p (i + 1)).length (flat N64_cells (hzTo p (i + 1))) := by
              rw [HY.out, flat_append, List.length_append, ← HNN.out]; exact hown3
            go_roundw
            case rel => exact ⟨i + 1, by omega, by go_num, hown5, hb8⟩
            case measure => simp [intOf]; omega
          · have HY : Hid (hzTo p (i + 1) = hzTo p i) := Lib.hid (hzTo_no p i (by rw [HPI.out]; exact gp))
            go_wp2
            go_roundw
            case rel => exact ⟨i + 1, by omega, by go_num, by rw [HY.out, ← HNN.out]; exact HO7.out, HBB7.out⟩
            case measure => simp [intOf]; omega
        · have hin : i = m.ins.length := by omega
          have hown2 := own_mono (base := w.heap.size) HOWN.out (Nat.le_of_lt hq2)
          have HOW2 := Lib.hid hown2
          clear hown2 hown hnn
          subst hin
          go_wp2
          go_ret2
          exact ⟨_, rfl, by rw [← HNN.out]; exact HOW2.out, bl_trans HBA.out (bl_trans HB2.out HBB.out)⟩
    · have HC : Hid (hzCode m row b = 2) := Lib.hid (by unfold hzCode; rw [if_pos g1, if_neg (by simp [g2])])
      have HL : Hid (hzList m row b = []) := Lib.hid (by unfold hzList; rw [if_neg (by rw [HC.out]; omega)])
      rw [HC.out, HL.out]
      obtain ⟨R, hRR⟩ : ∃ R, R = mRows m := ⟨_, rfl⟩
      rw [← hRR] at HIR hR64 g2
      have hR1 : 1 ≤ R := by rw [hRR]; exact Nat.one_le_two_pow
      clear hRR HC HL g1 HRE HIN HLT
      cases g3 : inB row 0 ((R : Int) - 1) with
      | false =>
        clear g2
        go_enter Tryz.func30, Tryz.ntmps30
        go_wp2_with fail
        refine (HVM.out _ HBA.out).mono ?_
        rintro e w1 ⟨rfl, hb1⟩
        have HB1 := Lib.hid (bl_trans HBA.out hb1)
        obtain ⟨X0, -, -, -, x3, -⟩ := HXB.out.step hb1
        clear hb1
        go_wp2_with (first | (go_at_call 77; refine (HIR.out _).mono ?_; rintro e w' ⟨rfl, rfl⟩) | (go_at_call 64; refine (in_any _ _ _ _).mono ?_; rintro e w' ⟨rfl, rfl⟩))
        go_ret2
        exact ⟨_, rfl, World.ownsRow_nil _ _ _ _, HB1.out⟩
      | true =>
        rw [g3, Bool.true_and] at g2
        go_enter Tryz.func30, Tryz.ntmps30
        go_wp2_with fail
        refine (HVM.out _ HBA.out).mono ?_
        rintro e w1 ⟨rfl, hb1⟩
        have HB1 := Lib.hid (bl_trans HBA.out hb1)
        obtain ⟨X0, -, -, -, x3, -⟩ := HXB.out.step hb1
        clear hb1
        go_wp2_with (first | (go_at_call 77; refine (HIR.out _).mono ?_; rintro e w' ⟨rfl, rfl⟩) | (go_at_call 64; refine (in_any _ _ _ _).mono ?_; rintro e w' ⟨rfl, rfl⟩))
        go_ret2
        exact ⟨_, rfl, World.ownsRow_nil _ _ _ _, HB1.out⟩
  · have HC : Hid (hzCode m row b = 1) := Lib.hid (by unfold hzCode; rw [if_neg (by simp [g1])])
    have HL : Hid (hzList m row b = []) := Lib.hid (by unfold hzList; rw [if_neg (by rw [HC.out]; omega)])
    rw [HC.out, HL.out]
    rw [g1] at HVM
    clear g1 HC HL
    go_enter Tryz.func30, Tryz.ntmps30
    go_wp2_with fail
    refine (HVM.out _ HBA.out).mono ?_
    rintro e w1 ⟨rfl, hb1⟩
    have hb01 := bl_trans HBA.out hb1
    go_wp2
    go_ret2
    exact ⟨_, rfl, World.ownsRow_nil _ _ _ _, hb01⟩
end Go.Proofs.YtmeefmoblkiebaaGreat
/- Plain words and first contracts: FirstUnsteady, IsSteady. -/
namespace Go.Proofs.YtmeefmoblkiebaaGreat
open Go.RowKit
set_option linter.unusedVariables false
set_option linter.unusedSimpArgs false
set_option maxHeartbeats 400000
set_option maxRecDepth 100000
def usFind (p : Nat → Nat → Bool) (R : Nat) : Option (Nat × Nat) := (List.range R).findSome? (fun r => ((List.range R).find? (p r)).map (fun c => (r, c)))
theorem usFind_no (p : Nat → Nat → Bool) (R : Nat) (h : ∀ r, r < R → ∀ c, c < R → p r c = false) : usFind p R = none := by
  unfold usFind
  rw [List.findSome?_eq_none_iff]
  intro r hr
  rw [Option.map_eq_none_iff, List.find?_eq_none]
  intro c hc
  rw [h r (by simpa using hr) c (by simpa using hc)]
  simp
theorem usFind_yes (p : Nat → Nat → Bool) (R r c : Nat) (hr : r < R) (hc : c < R) (h0 : ∀ j, j < r → ∀ d, d < R → p j d = false) (h1 : ∀ d, d < c → p r d = false) (h : p r c = true) : usFind p R = some (r, c) := by
  have e1 : (List.range R).find? (p r) = some c := by
    rw [List.find?_range_eq_some]
    exact ⟨h, by simpa using hc, fun j hj => by rw [h1 j hj]; rfl⟩
  have e2 : List.range R = List.range r ++ (List.range (R - r)).map (fun x => r + x) := by
    rw [← List.range_add]
    congr 1
    omega
  obtain ⟨g, hg⟩ : ∃ g : Nat → Option (Nat × Nat), g = fun r => ((List.range R).find? (p r)).map (fun c => (r, c)) := ⟨_, rfl⟩
  have e5 : usFind p R = (List.range R).findSome? g := by rw [hg]; rfl
  have e3 : (List.range r).findSome? g = none := by
    rw [List.findSome?_eq_none_iff]
    intro j hj
    rw [hg, Option.map_eq_none_iff, List.find?_eq_none]
    intro d hd
    rw [h0 j (by simpa using hj) d (by simpa using hd)]
    simp
  have e6 : g r = some (r, c) := by rw [hg]; simp only [e1]; rfl
  obtain ⟨k, hk⟩ : ∃ k, R - r = k + 1 := ⟨R - r - 1, by omega⟩
  rw [e5, e2, List.findSome?_append, e3, hk, List.range_succ_eq_map, List.map_cons, List.findSome?_cons, Nat.add_zero, e6]
  rfl
def stCode (m : Mc) (b : Int) : Int := if vMc m = true then (if inB b 0 100 = true then (if m.ins.length ≤ 4 then 0 else 3) else 2) else 1
theorem l03Steady_any (b0 : Nat) (m : Mc) (b : Int) (w : World) (h : MP w b0 m) (hok : m.ok) (hn : m.bd.ps.length ≤ 10000000) (hn1 : m.ins.length ≤ 10000000) (hn2 : m.outs.length ≤ 10000000) :
    Calls Tryz.prog 73 #[.pointer (some ⟨b0, 0, none⟩), .int .i64 b] w fun e w' => e = .returned (.int .i64 (stCode m b)) ∧ Below w.heap.size w w' := by
  have HOK := Lib.hid (l03Ok_any b0 m w h hok hn hn1 hn2)
  have HLT := Lib.hid (fun w1 => l03Late_any b w1)
  obtain ⟨hbl, s, si, so, ⟨hbd, c3, c4⟩, -, ⟨ia, icap, rfl, hins⟩, -⟩ := h
  rcases Bool.eq_false_or_eq_true (vMc m) with g1 | g1
  · rw [g1] at HOK
    cases g2 : inB b 0 100 with
    | false =>
      have HC : Hid (stCode m b = 2) := Lib.hid (by unfold stCode; rw [if_pos g1, if_neg (by simp [g2])])
      rw [HC.out]
      rw [g2] at HLT
      clear g1 g2 HC
      go_enter Tryz.func73, Tryz.ntmps73
      go_wp2_with fail
      refine HOK.out.mono ?_
      rintro e w1 ⟨rfl, hb1⟩
      go_wp2_with (go_at_call 80; refine (HLT.out _).mono ?_; rintro e w' ⟨rfl, rfl⟩)
      go_ret
      exact ⟨rfl, hb1⟩
    | true =>
      rw [g2] at HLT
      by_cases g3 : m.ins.length ≤ 4
      · have HC : Hid (stCode m b = 0) := Lib.hid (by unfold stCode; rw [if_pos g1, if_pos g2, if_pos g3])
        rw [HC.out]
        clear g1 g2 HC
        go_enter Tryz.func73, Tryz.ntmps73
        go_wp2_with fail
        refine HOK.out.mono ?_
        rintro e w1 ⟨rfl, hb1⟩
        have x3 : w1.cell? ⟨b0, 3, none⟩ = some (.slice ia m.ins.length icap) := by rw [hb1.cell (p := ⟨b0, 3, none⟩) hbl]; exact c3
        go_wp2_with (go_at_call 80; refine (HLT.out _).mono ?_; rintro e w' ⟨rfl, rfl⟩)
        go_ret
        exact ⟨rfl, hb1⟩
      · have HC : Hid (stCode m b = 3) := Lib.hid (by unfold stCode; rw [if_pos g1, if_pos g2, if_neg g3])
        rw [HC.out]
        clear g1 g2 HC
        go_enter Tryz.func73, Tryz.ntmps73
        go_wp2_with fail
        refine HOK.out.mono ?_
        rintro e w1 ⟨rfl, hb1⟩
        have x3 : w1.cell? ⟨b0, 3, none⟩ = some (.slice ia m.ins.length icap) := by rw [hb1.cell (p := ⟨b0, 3, none⟩) hbl]; exact c3
        go_wp2_with (go_at_call 80; refine (HLT.out _).mono ?_; rintro e w' ⟨rfl, rfl⟩)
        go_ret
        exact ⟨rfl, hb1⟩
  · have HC : Hid (stCode m b = 1) := Lib.hid (by unfold stCode; rw [if_neg (by simp [g1])])
    rw [HC.out]
    rw [g1] at HOK
    clear g1 HC
    go_enter Tryz.func73, Tryz.ntmps73
    go_wp2_with fail
    refine HOK.out.mono ?_
    rintro e w1 ⟨rfl, hb1⟩
    go_wp2
    go_ret
    exact ⟨rfl, hb1⟩
end Go.Proofs.YtmeefmoblkiebaaGreat
/- Contracts: FirstUnsteady (the reference). -/
namespace Go.Proofs.YtmeefmoblkiebaaGreat
open Go.RowKit
set_option linter.unusedVariables false
set_option linter.unusedSimpArgs false
set_option maxHeartbeats 400000
set_option maxRecDepth 100000
def usRowO : Option (Nat × Nat) → Int
  | some (r, _) => r
  | none => 0
def usLateO (n : Nat) (b : Int) : Option (Nat × Nat) → List Int
  | some (_, c) => lbList n c b
  | none => []
def usCodeO (st : Int) (o : Option (Nat × Nat)) : Int := if st = 0 then (match o with | some _ => 0 | none => 6) else st
noncomputable def usP (m : Mc) (b : Int) (r c : Nat) : Bool := (mOut m r (lbList m.ins.length c b) : Int) != (mOut m r (zeros m.ins.length) : Int)
noncomputable def usOpt (m : Mc) (b : Int) : Option (Nat × Nat) := if stCode m b = 0 then usFind (usP m b) (mRows m) else none
noncomputable def usRow (m : Mc) (b : Int) : Int := usRowO (usOpt m b)
noncomputable def usLate (m : Mc) (b : Int) : List Int := usLateO m.ins.length b (usOpt m b)
noncomputable def usCode (m : Mc) (b : Int) : Int := usCodeO (stCode m b) (usOpt m b)
theorem usLate_len (m : Mc) (b : Int) : (usLate m b).length ≤ m.ins.length := by
  unfold usLate
  cases usOpt m b with
  | none => exact Nat.zero_le _
  | some p => exact Nat.le_of_eq (lbList_len _ _ _)
theorem us_bad (m : Mc) (b : Int) (h : stCode m b ≠ 0) : usRow m b = 0 ∧ usLate m b = [] ∧ usCode m b = stCode m b := by
  have h1 : usOpt m b = none := if_neg h
  unfold usRow usLate usCode
  rw [h1]
  exact ⟨rfl, rfl, if_neg h⟩
theorem us_none (m : Mc) (b : Int) (h : stCode m b = 0) (h1 : ∀ r, r < mRows m → ∀ c, c < mRows m → usP m b r c = false) : usRow m b = 0 ∧ usLate m b = [] ∧ usCode m b = 6 := by
  have h1 : usOpt m b = none := by unfold usOpt; rw [if_pos h]; exact usFind_no _ _ h1
  unfold usRow usLate usCode
  rw [h1]
  exact ⟨rfl, rfl, if_pos h⟩
theorem us_some (m : Mc) (b : Int) (r c : Nat) (h : stCode m b = 0) (hr : r < mRows m) (hc : c < mRows m) (h0 : ∀ j, j < r → ∀ d, d < mRows m → usP m b j d = false) (h1 : ∀ d, d < c → usP m b r d = false) (h2 : usP m b r c = true) : usRow m b = r ∧ usLate m b = lbList m.ins.length c b ∧ usCode m b = 0 := by
  have h1 : usOpt m b = some (r, c) := by unfold usOpt; rw [if_pos h]; exact usFind_yes _ _ r c hr hc h0 h1 h2
  unfold usRow usLate usCode
  rw [h1]
  exact ⟨rfl, rfl, if_pos h⟩
theorem stCode_ok (m : Mc) (b : Int) (h : stCode m b = 0) : vMc m = true ∧ inB b 0 100 = true ∧ m.ins.length ≤ 4 := by
  unfold stCode at h
  split at h
  · rename_i g1
    split at h
    · rename_i g2
      split at h
      · rename_i g3; exact ⟨g1, g2, g3⟩
      · omega
    · omega
  · omega
theorem lbSt_no0 (n ch : Nat) (b : Int) (i : Nat) (hi : i < n) (h : ch.testBit i = false) : (lbSt n ch b i).set i 0 = lbSt n ch b (i + 1) := by
  rw [lbSt_no n ch b i h]
  apply List.ext_getElem
  · simp
  · intro j h1 h2
    rw [List.getElem_set]
    split
    · rename_i e
      subst e
      rw [lbSt_get n ch b i i hi, if_neg (by omega)]
    · rfl
theorem lbList_zero (n : Nat) (b : Int) : lbList n 0 b = zeros n := by
  unfold lbList lbSt zeros
  apply List.ext_getElem
  · simp
  · intro i h1 h2
    simp
set_option maxHeartbeats 1600000 in
theorem specFirstUnsteady_any (m : Mc) (v : Value) (b : Int) (w : World) (h : MV w v m) (hok : m.ok) (hn : m.bd.ps.length ≤ 10000000) (hn1 : m.ins.length ≤ 10000000) (hn2 : m.outs.length ≤ 10000000) :
    Calls Tryz.prog 27 #[v, .int .i64 b] w fun e w' => ∃ v, e = .returned (.tuple #[.int .i64 (usRow m b), v, .int .i64 (usCode m b)]) ∧ w'.ownsRow w.heap.size 2 1 v (usLate m b).length (flat N64_cells (usLate m b)) ∧ Below w.heap.size w w' := by
  obtain ⟨s, si, so, rfl, h0, ⟨ai, capi, rfl, h1⟩, h2⟩ := h
  have HM := Lib.hid (MP.new (m := m) (w := w) h0 ⟨ai, capi, rfl, h1⟩ h2 55)
  have HBA := Lib.hid (show Below w.heap.size w (w.alloc (.cells #[.int .i8 m.bd.wd, .int .i8 m.bd.hg, s, .slice ai m.ins.length capi, so] 55)) from bl_alloc (Below.refl _ _))
  have HXB := Lib.hid (BX5.new w (.int .i8 m.bd.wd) (.int .i8 m.bd.hg) s (.slice ai m.ins.length capi) so 55)
  have HST := Lib.hid (l03Steady_any w.heap.size m b _ HM.out hok hn hn1 hn2)
  by_cases g1 : stCode m b = 0
  · obtain ⟨gv, gb, gi4⟩ := stCode_ok m b g1
    obtain ⟨-, -, hi1, hi6, ho1, ho8, -⟩ := vMc_parts m gv
    have HRO := Lib.hid (fun w1 (hb : Below (w.alloc (.cells #[.int .i8 m.bd.wd, .int .i8 m.bd.hg, s, .slice ai m.ins.length capi, so] 55)).heap.size (w.alloc (.cells #[.int .i8 m.bd.wd, .int .i8 m.bd.hg, s, .slice ai m.ins.length capi, so] 55)) w1) => l03Rows_any w.heap.size m w1 (HM.out.step hb) hi6)
    have hR64 := mRows_le m hi6
    have HOU := Lib.hid (fun w1 (hb : Below (w.alloc (.cells #[.int .i8 m.bd.wd, .int .i8 m.bd.hg, s, .slice ai m.ins.length capi, so] 55)).heap.size (w.alloc (.cells #[.int .i8 m.bd.wd, .int .i8 m.bd.hg, s, .slice ai m.ins.length capi, so] 55)) w1) (r : Nat) (hr : r < 64) (L : List Int) (hl : L.length = m.ins.length) (hlo : lateOk L) a (hs : SlAt w1.heap.size w1 a (flat N64_cells L)) => l03Outputs_any (B := w1.heap.size) w.heap.size m r a m.ins.length L w1 (HM.out.step hb) gv hok hl hlo hs (Nat.le_refl _) hr)
    have HLO := Lib.hid (fun c => lbList_ok m.ins.length c b gb)
    have HPE : Hid (∀ r c, usP m b r c = ((mOut m r (lbList m.ins.length c b) : Int) != (mOut m r (zeros m.ins.length) : Int))) := Lib.hid (fun r c => rfl)
    have HNO := Lib.hid (us_none m b g1)
    have HYS := Lib.hid (fun r c => us_some m b r c g1)
    have hbb : 0 ≤ b ∧ b ≤ 100 := by unfold inB at gb; simpa using gb
    obtain ⟨hb0, hb100⟩ := hbb
    rw [g1] at HST
    obtain ⟨R, hRR⟩ : ∃ R, R = mRows m := ⟨_, rfl⟩
    rw [← hRR] at HRO hR64 HNO HYS
    obtain ⟨p, hp⟩ : ∃ p, p = usP m b := ⟨_, rfl⟩
    rw [← hp] at HPE HNO HYS
    obtain ⟨f, hf⟩ : ∃ f : Nat → List Int → Nat, f = mOut m := ⟨_, rfl⟩
    rw [← hf] at HOU HPE
    obtain ⟨rr, hrr⟩ : ∃ rr, rr = usRow m b := ⟨_, rfl⟩
    obtain ⟨rl, hrl⟩ : ∃ rl, rl = usLate m b := ⟨_, rfl⟩
    obtain ⟨rc, hrc⟩ : ∃ rc, rc = usCode m b := ⟨_, rfl⟩
    simp only [← hrr, ← hrl, ← hrc] at HNO HYS ⊢
    clear hRR hp hf hrr hrl hrc g1 gv gb
    obtain ⟨i0, hi0, hiz0, hiz1, hiz2⟩ := info_parts Tryz.infoInt64
    go_enter Tryz.func27, Tryz.ntmps27
    go_wp2_with fail
    refine HST.out.mono ?_
    rintro e w1 ⟨rfl, hb1⟩
    have HB1 := Lib.hid hb1
    obtain ⟨X0, -, -, -, x3, -⟩ := HXB.out.step hb1
    clear hb1
    go_wp2
    go_loopw [8] (fun rx wr => ∃ r : Nat, r ≤ R ∧ rx = .int .i64 r ∧ Hid (∀ j, j < r → ∀ d, d < R → p j d = false) ∧ Below w1.heap.size w1 wr) (fun rx _ => R - (intOf rx).toNat)
    case atStart => exact ⟨0, by omega, rfl, Lib.hid (fun j hj => absurd hj (Nat.not_lt_zero _)), Below.refl _ _⟩
    case round =>
      obtain ⟨r, hr, rfl, HP, hb⟩ := hrel
      have HBW := Lib.hid (bl_trans HB1.out hb)
      by_cases hlt : r < R
      · have hrI : (r : Int) < R := by omega
        have HBB := Lib.hid hb
        clear hb
        obtain ⟨W1, hW1⟩ : ∃ W1, W1 = wr := ⟨_, rfl⟩
        subst hW1
        go_wp2_with (go_at_call 74; refine (HRO.out _ HBW.out).mono ?_; rintro e w' ⟨rfl, rfl⟩)
        go_loopw [9, 10] (fun px cx wi => ∃ (c : Nat) (pl : Int), c ≤ R ∧ cx = .int .i64 c ∧ px = .int .i64 pl ∧ Hid ((c = 0 ∨ pl = ((f r (zeros m.ins.length) : Nat) : Int)) ∧ ∀ d, d < c → p r d = false) ∧ Below W1.heap.size W1 wi) (fun _ cx _ => R - (intOf cx).toNat)
        case atStart => exact ⟨0, 0, by omega, rfl, rfl, Lib.hid ⟨.inl rfl, fun d hd => absurd hd (Nat.not_lt_zero _)⟩, Below.refl _ _⟩
        case round =>
          obtain ⟨c, pl, hc, rfl, rfl, HC, hbi⟩ := hrel
          have HBWi := Lib.hid (bl_trans HBW.out hbi)
          have HBBi := Lib.hid (bl_trans HBB.out hbi)
          have y3 : wr.cell? ⟨w.heap.size, 3, none⟩ = some (.slice ai m.ins.length capi) := by rw [HBBi.out.cell (p := ⟨w.heap.size, 3, none⟩) X0]; exact x3
          have HBI := Lib.hid hbi
          clear hbi
          by_cases hltc : c < R
          · have hcI : (c : Int) < R := by omega
            obtain ⟨W2, hW2⟩ : ∃ W2, W2 = wr := ⟨_, rfl⟩
            subst hW2
            go_wp2_with (first | (go_at_call 74; refine (HRO.out _ HBWi.out).mono ?_; rintro e w' ⟨rfl, rfl⟩) | (refine wpList_make_full _ rfl (.tmp 32) (.tmp 32) 34 rfl W2.heap.size 2 i0 _ 1 Tryz.underlying34 hi0 hiz0 hiz1 _ _ _ _ m.ins.length rfl rfl rfl rfl (by rw [hiz2]; omega) (by unfold maxLen; omega) (Nat.le_refl _) ?_; intro w5 hmade hgrow))
            rw [made_rep _ rfl, ← flat_zeros, ← lbSt_zero m.ins.length c b] at hmade
            have hb5 : Below W2.heap.size W2 w5 := bl_grown (Below.refl _ _) hgrow (by simp)
            have HMD := Lib.hid (And.intro hmade hb5)
            clear hmade hb5 hgrow
            go_wp2
            go_loopw [12] (fun ix wj => ∃ i : Nat, i ≤ m.ins.length ∧ ix = .int .i64 i ∧ wj.ownsRow W2.heap.size 2 1 (.slice (some ⟨W2.heap.size, 0, none⟩) m.ins.length m.ins.length) m.ins.length (flat N64_cells (lbSt m.ins.length c b i)) ∧ Below W2.heap.size W2 wj) (fun ix _ => m.ins.length - (intOf ix).toNat)
            case atStart => exact ⟨0, by omega, rfl, HMD.out.1, HMD.out.2⟩
            case round =>
              obtain ⟨i, hi, rfl, hown, hbj⟩ := hrel
              by_cases hlti : i < m.ins.length
              · obtain ⟨k0, k1⟩ := n64_cell hown i (by rw [lbSt_len]; exact hlti)
                obtain ⟨o, k0⟩ : ∃ o, wr.cell? ⟨W2.heap.size, i, none⟩ = some (.int .i64 o) := ⟨_, k0⟩
                have hiI : (i : Int) < m.ins.length := by omega
                have HOWN := Lib.hid hown
                have HBJ := Lib.hid hbj
                clear hown hbj
                have hbv := bit_val c i (by omega)
                have hmin : min i 64 = i := Nat.min_eq_left (by omega)
                cases gb : c.testBit i with
                | true =>
                  rw [gb, if_pos rfl] at hbv
                  have HS := Lib.hid (lbSt_yes m.ins.length c b i hlti gb)
                  clear gb
                  go_wp2
                  have how := n64_set HOWN.out i b
                  rw [HS.out] at how
                  go_roundw
                  case rel => exact ⟨i + 1, by omega, by go_num, how, bl_set HBJ.out (Nat.le_refl _) _⟩
                  case measure => simp [intOf]; omega
                | false =>
                  rw [gb, if_neg Bool.false_ne_true] at hbv
                  have HS := Lib.hid (lbSt_no0 m.ins.length c b i hlti gb)
                  clear gb
                  go_wp2
                  have how := n64_set HOWN.out i 0
                  rw [HS.out] at how
                  go_roundw
                  case rel => exact ⟨i + 1, by omega, by go_num, how, bl_set HBJ.out (Nat.le_refl _) _⟩
                  case measure => simp [intOf]; omega
              · have hin : Hid (i = m.ins.length) := Lib.hid (by omega)
                rw [hin.out] at hown
                have HOWN := Lib.hid hown
                have HBJ := Lib.hid hbj
                have HOC := Lib.hid (HOU.out wr (bl_trans HBWi.out hbj) r (by omega) (lbList m.ins.length c b) (lbList_len _ _ _) (HLO.out c) _ (own_sl hown))
                have HPC := Lib.hid (HPE.out r c)
                have HLZ : Hid (c = 0 → lbList m.ins.length c b = zeros m.ins.length) := Lib.hid (fun h => by rw [h]; exact lbList_zero _ _)
                clear hown hbj
                go_wp2_with fail
                refine HOC.out.mono ?_
                rintro e w7 ⟨rfl, hb7⟩
                have HB7 := Lib.hid (bl_trans HBJ.out hb7)
                have HB7i := Lib.hid (bl_trans HBI.out HB7.out)
                have HO7 := Lib.hid (own_below HOWN.out hb7 (Nat.le_refl _))
                clear hb7 HOC
                by_cases hc0 : c = 0
                · have gc : ((c : Int) == 0) = true := by rw [hc0]; rfl
                  have HN : Hid (f r (lbList m.ins.length c b) = f r (zeros m.ins.length) ∧ p r c = false) := Lib.hid (by rw [HPC.out, HLZ.out hc0]; exact ⟨rfl, by simp⟩)
                  obtain ⟨F, hF⟩ : ∃ F : Int, F = ((f r (lbList m.ins.length c b) : Nat) : Int) := ⟨_, rfl⟩
                  rw [← hF]
                  have HF := Lib.hid hF
                  have HC0 := Lib.hid hc0
                  clear hc0 hF
                  go_wp2
                  go_roundw
                  case rel => exact ⟨c + 1, F, by omega, by go_num, rfl, Lib.hid ⟨.inr (by rw [HF.out, HN.out.1]), fun d hd => by rcases Nat.lt_succ_iff_lt_or_eq.1 hd with h | h; exact HC.out.2 d h; rw [h]; exact HN.out.2⟩, HB7i.out⟩
                  case measure => simp [intOf]; omega
                · have gc : ((c : Int) == 0) = false := by simp; omega
                  have HPL := Lib.hid (HC.out.1.resolve_left hc0)
                  obtain ⟨F, hF⟩ : ∃ F : Int, F = ((f r (lbList m.ins.length c b) : Nat) : Int) := ⟨_, rfl⟩
                  rw [← hF] at HPC ⊢
                  rw [← HPL.out] at HPC
                  have HPL2 := Lib.hid HPL.out
                  clear hF hc0
                  rcases Bool.eq_false_or_eq_true (F != pl) with gp | gp
                  · have HY := Lib.hid (HYS.out r c hlt hltc HP.out HC.out.2 (by rw [HPC.out]; exact gp))
                    have HOW2 := Lib.hid (own_mono (base := w.heap.size) HO7.out (by have h1 := HBWi.out.size; simp only [World.size_alloc] at h1; omega))
                    go_wp2
                    go_ret3
                    exact ⟨_, by rw [HY.out.1, HY.out.2.2]; rfl, by rw [HY.out.2.1, lbList_len]; exact HOW2.out, bl_trans HBA.out (bl_trans HBWi.out HB7.out)⟩
                  · have HN : Hid (p r c = false) := Lib.hid (by rw [HPC.out]; exact gp)
                    go_wp2
                    go_roundw
                    case rel => exact ⟨c + 1, pl, by omega, by go_num, rfl, Lib.hid ⟨.inr HPL2.out, fun d hd => by rcases Nat.lt_succ_iff_lt_or_eq.1 hd with h | h; exact HC.out.2 d h; rw [h]; exact HN.out⟩, HB7i.out⟩
                    case measure => simp [intOf]; omega
          · have HCR : Hid (c = R) := Lib.hid (by omega)
            have hcI : ¬ (c : Int) < R := by omega
            go_wp2_with (go_at_call 74; refine (HRO.out _ HBWi.out).mono ?_; rintro e w' ⟨rfl, rfl⟩)
            go_roundw
            case rel => exact ⟨r + 1, by omega, by go_num, Lib.hid (fun j hj d hd => by rcases Nat.lt_succ_iff_lt_or_eq.1 hj with h | h; exact HP.out j h d hd; rw [h]; exact HC.out.2 d (by rw [HCR.out]; exact hd)), HBBi.out⟩
            case measure => simp [intOf]; omega
      · have HRR : Hid (r = R) := Lib.hid (by omega)
        have hrI : ¬ (r : Int) < R := by omega
        have HNN := Lib.hid (HNO.out (fun j hj d hd => HP.out j (by rw [HRR.out]; exact hj) d hd))
        have HBB := Lib.hid hb
        have hb01 := bl_trans HBA.out HBW.out
        have hown := World.ownsRow_made (e := 2) (size := 1) wr #[] 0 (Nat.le_refl _) (by simp [maxLen]) rfl
        have hown2 := own_mono (base := w.heap.size) hown hb01.size
        have HRET := Lib.hid (And.intro hown2 (bl_alloc (o := .cells #[] 2) hb01))
        clear hb hb01 hown hown2
        go_wp2_with (go_at_call 74; refine (HRO.out _ HBW.out).mono ?_; rintro e w' ⟨rfl, rfl⟩)
        go_ret3
        exact ⟨_, by rw [HNN.out.1, HNN.out.2.2]; rfl, by rw [HNN.out.2.1]; exact HRET.out.1, HRET.out.2⟩
  · obtain ⟨e1, e2, e3⟩ := us_bad m b g1
    rw [e1, e2, e3]
    obtain ⟨K, hK⟩ : ∃ K, K = stCode m b := ⟨_, rfl⟩
    rw [← hK] at HST g1 ⊢
    have gk : (K != 0) = true := by simpa using g1
    clear hK e1 e2 e3 g1
    go_enter Tryz.func27, Tryz.ntmps27
    go_wp2_with fail
    refine HST.out.mono ?_
    rintro e w1 ⟨rfl, hb1⟩
    have hb01 := bl_trans HBA.out hb1
    have hown := World.ownsRow_made (e := 2) (size := 1) w1 #[] 0 (Nat.le_refl _) (by simp [maxLen]) rfl
    have hown2 := own_mono (base := w.heap.size) hown hb01.size
    have HRET := Lib.hid (And.intro hown2 (bl_alloc (o := .cells #[] 2) hb01))
    clear hb1 hb01 hown hown2
    go_wp2
    go_ret3
    exact ⟨_, rfl, HRET.out.1, HRET.out.2⟩
end Go.Proofs.YtmeefmoblkiebaaGreat
/- Contracts: FirstUnsteady (the program), IsSteady (both). -/
namespace Go.Proofs.YtmeefmoblkiebaaGreat
open Go.RowKit
set_option linter.unusedVariables false
set_option linter.unusedSimpArgs false
set_option maxHeartbeats 400000
set_option maxRecDepth 100000
theorem stCode_cases (m : Mc) (b : Int) (h : stCode m b ≠ 0) : (vMc m = false ∧ stCode m b = 1) ∨ (vMc m = true ∧ inB b 0 100 = false ∧ stCode m b = 2) ∨ (vMc m = true ∧ inB b 0 100 = true ∧ ¬ m.ins.length ≤ 4 ∧ stCode m b = 3) := by
  unfold stCode at h ⊢
  by_cases g1 : vMc m = true
  · rw [if_pos g1] at h ⊢
    by_cases g2 : inB b 0 100 = true
    · rw [if_pos g2] at h ⊢
      by_cases g3 : m.ins.length ≤ 4
      · rw [if_pos g3] at h; exact absurd rfl h
      · rw [if_neg g3]; exact .inr (.inr ⟨g1, g2, g3, rfl⟩)
    · rw [if_neg g2]; exact .inr (.inl ⟨g1, by simpa using g2, rfl⟩)
  · rw [if_neg g1]; exact .inl ⟨by simpa using g1, rfl⟩
set_option maxHeartbeats 1600000 in
theorem firstUnsteady_any (m : Mc) (v : Value) (b : Int) (w : World) (h : MVc w v m) (hok : m.ok) (hn : m.bd.ps.length ≤ 10000000) (hn1 : m.ins.length ≤ 10000000) (hn2 : m.outs.length ≤ 10000000) :
    Calls Tryz.prog 26 #[v, .int .i64 b] w fun e w' => ∃ v, e = .returned (.tuple #[.int .i64 (usRow m b), v, .int .i64 (usCode m b)]) ∧ w'.ownsRow w.heap.size 2 1 v (usLate m b).length (flat N64_cells (usLate m b)) ∧ Below w.heap.size w w' := by
  have HVM := Lib.hid (fun w1 (hb : Below w.heap.size w w1) => validMachine_any m v w1 (h.step hb) hok hn hn1 hn2)
  obtain ⟨sa, scap, ia, icap, oa, ocap, rfl, hcap, hps, hins, houts⟩ := h
  have HM := Lib.hid (MP.new (m := m) (w := w) ⟨sa, scap, rfl, hps⟩ ⟨ia, icap, rfl, hins⟩ ⟨oa, ocap, rfl, houts⟩ 55)
  have HBA := Lib.hid (show Below w.heap.size w (w.alloc (.cells #[.int .i8 m.bd.wd, .int .i8 m.bd.hg, .slice sa m.bd.ps.length scap, .slice ia m.ins.length icap, .slice oa m.outs.length ocap] 55)) from bl_alloc (Below.refl _ _))
  have HXB := Lib.hid (BX5.new w (.int .i8 m.bd.wd) (.int .i8 m.bd.hg) (.slice sa m.bd.ps.length scap) (.slice ia m.ins.length icap) (.slice oa m.outs.length ocap) 55)
  have HLT := Lib.hid (fun w1 => in_any b 0 100 w1)
  by_cases g1 : stCode m b = 0
  · obtain ⟨gv, gb, gi4⟩ := stCode_ok m b g1
    obtain ⟨-, -, hi1, hi6, ho1, ho8, -⟩ := vMc_parts m gv
    rw [gv] at HVM
    rw [gb] at HLT
    have HWK := Lib.hid (fun w1 (hb : Below (w.alloc (.cells #[.int .i8 m.bd.wd, .int .i8 m.bd.hg, .slice sa m.bd.ps.length scap, .slice ia m.ins.length icap, .slice oa m.outs.length ocap] 55)).heap.size (w.alloc (.cells #[.int .i8 m.bd.wd, .int .i8 m.bd.hg, .slice sa m.bd.ps.length scap, .slice ia m.ins.length icap, .slice oa m.outs.length ocap] 55)) w1) => worksOf_any w.heap.size m w1 (HM.out.step hb) gv hok)
    have HRO := Lib.hid (fun w1 g (hw : WkAt w1 g w.heap.size m) => wrows_any g w.heap.size m w1 hw hi6)
    have hR64 := mRows_le m hi6
    have HOZ := Lib.hid (fun w1 g (hw : WkAt w1 g w.heap.size m) (r : Nat) (hr : r < 64) => woutputs_any g w.heap.size m r (.slice none 0 0) (zeros m.ins.length) w1 hw gv hok (LateV.nil w1 _) hr)
    have HOU := Lib.hid (fun w1 g (hw : WkAt w1 g w.heap.size m) (r : Nat) (hr : r < 64) (L : List Int) (hl : L.length = m.ins.length) (hlo : lateOk L) al capl (hs : SlAt w1.heap.size w1 al (flat N64_cells L)) => woutputs_any g w.heap.size m r (.slice al m.ins.length capl) L w1 hw gv hok (by have h9 := lateV_of (capl := capl) hs hl hi1 hlo; rwa [hl] at h9) hr)
    have HLO := Lib.hid (fun c => lbList_ok m.ins.length c b gb)
    have HPE : Hid (∀ r c, usP m b r c = ((mOut m r (lbList m.ins.length c b) : Int) != (mOut m r (zeros m.ins.length) : Int))) := Lib.hid (fun r c => rfl)
    have HNO := Lib.hid (us_none m b g1)
    have HYS := Lib.hid (fun r c => us_some m b r c g1)
    obtain ⟨R, hRR⟩ : ∃ R, R = mRows m := ⟨_, rfl⟩
    rw [← hRR] at HRO hR64 HNO HYS
    obtain ⟨p, hp⟩ : ∃ p, p = usP m b := ⟨_, rfl⟩
    rw [← hp] at HPE HNO HYS
    obtain ⟨f, hf⟩ : ∃ f : Nat → List Int → Nat, f = mOut m := ⟨_, rfl⟩
    rw [← hf] at HOU HOZ HPE
    obtain ⟨rr, hrr⟩ : ∃ rr, rr = usRow m b := ⟨_, rfl⟩
    obtain ⟨rl, hrl⟩ : ∃ rl, rl = usLate m b := ⟨_, rfl⟩
    obtain ⟨rc, hrc⟩ : ∃ rc, rc = usCode m b := ⟨_, rfl⟩
    simp only [← hrr, ← hrl, ← hrc] at HNO HYS ⊢
    clear hRR hp hf hrr hrl hrc g1 gv gb
    go_enter Tryz.func26, Tryz.ntmps26
    go_wp2_with fail
    refine (HVM.out _ HBA.out).mono ?_
    rintro e w1 ⟨rfl, hb1⟩
    have HB1 := Lib.hid (bl_trans HBA.out hb1)
    have HWC := Lib.hid (HWK.out w1 hb1)
    obtain ⟨X0, -, -, -, x3, -⟩ := HXB.out.step hb1
    clear hb1 HWK
    go_wp2_with (go_at_call 64; refine (HLT.out _).mono ?_; rintro e w' ⟨rfl, rfl⟩)
    refine HWC.out.mono ?_
    rintro e w2 ⟨g, rfl, hg, hwk, hb2⟩
    have HB2 := Lib.hid (bl_trans HB1.out hb2)
    have HW2 := Lib.hid hwk
    have HRC := Lib.hid (HRO.out w2 g hwk)
    clear hwk hb2 HWC x3 X0
    go_wp2_with (go_at_call 70; refine HRC.out.mono ?_; rintro e w' ⟨rfl, rfl⟩)
    go_loopw [28] (fun rx wr => ∃ r : Nat, r ≤ R ∧ rx = .int .i64 r ∧ Hid (∀ j, j < r → ∀ d, d < R → p j d = false) ∧ Below w2.heap.size w2 wr) (fun rx _ => R - (intOf rx).toNat)
    case atStart => exact ⟨0, by omega, rfl, Lib.hid (fun j hj => absurd hj (Nat.not_lt_zero _)), Below.refl _ _⟩
    case round =>
      obtain ⟨r, hr, rfl, HP, hb⟩ := hrel
      by_cases hlt : r < R
      · have hrI : (r : Int) < R := by omega
        have HOC := Lib.hid (HOZ.out wr g (HW2.out.step hb) r (by omega))
        have HBB := Lib.hid hb
        clear hb
        obtain ⟨P, hP⟩ : ∃ P : Int, P = ((f r (zeros m.ins.length) : Nat) : Int) := ⟨_, rfl⟩
        rw [← hP] at HOC
        have HPQ := Lib.hid hP
        clear hP
        go_wp2_with fail
        refine HOC.out.mono ?_
        rintro e w3 ⟨rfl, hb3⟩
        have HBB3 := Lib.hid (bl_trans HBB.out hb3)
        have HW3 := Lib.hid (HW2.out.step HBB3.out)
        have HRC3 := Lib.hid (HRO.out w3 g HW3.out)
        clear hb3 HOC
        obtain ⟨W1, hW1⟩ : ∃ W1, W1 = wr := ⟨_, rfl⟩
        subst hW1
        go_wp2_with (go_at_call 70; refine HRC3.out.mono ?_; rintro e w' ⟨rfl, rfl⟩)
        go_loopw [36] (fun cx wi => ∃ c : Nat, c ≤ R ∧ cx = .int .i64 c ∧ Hid (∀ d, d < c → p r d = false) ∧ Below w3.heap.size w3 wi) (fun cx _ => R - (intOf cx).toNat)
        case atStart => exact ⟨0, by omega, rfl, Lib.hid (fun d hd => absurd hd (Nat.not_lt_zero _)), Below.refl _ _⟩
        case round =>
          obtain ⟨c, hc, rfl, HC, hbi⟩ := hrel
          have HBBi := Lib.hid (bl_trans HBB3.out hbi)
          have HBI := Lib.hid hbi
          by_cases hltc : c < R
          · have hcI : (c : Int) < R := by omega
            have HWi := Lib.hid (HW3.out.step hbi)
            have HCK := Lib.hid (lateBy_any m.ins.length c b wr (by omega) (by omega))
            have HPC := Lib.hid (HPE.out r c)
            rw [← HPQ.out] at HPC
            have HLB := Lib.hid (lbList_len m.ins.length c b)
            have HLK := Lib.hid (HLO.out c)
            have HYY := Lib.hid (HYS.out r c hlt hltc HP.out HC.out)
            obtain ⟨L, hL⟩ : ∃ L, L = lbList m.ins.length c b := ⟨_, rfl⟩
            rw [← hL] at HCK HPC HLB HLK HYY
            obtain ⟨hgl, c0, -, ⟨ah, caph, c2, -⟩, -⟩ := HWi.out
            clear hL hbi
            go_wp2_with fail
            refine HCK.out.mono ?_
            rintro e w5 ⟨vl, rfl, hown5, hb5⟩
            obtain ⟨al, capl, hve, hsl, -, -⟩ := own_at hown5
            subst hve
            have HOW5 := Lib.hid hown5
            have HB5 := Lib.hid hb5
            have HOC := Lib.hid (HOU.out w5 g (HWi.out.step hb5) r (by omega) L HLB.out HLK.out al capl hsl)
            clear hown5 hb5 hsl HCK c0 c2 hgl
            go_wp2_with fail
            refine HOC.out.mono ?_
            rintro e w7 ⟨rfl, hb7⟩
            have HB7 := Lib.hid (bl_trans HB5.out hb7)
            have HO7 := Lib.hid (own_below HOW5.out hb7 (Nat.le_refl _))
            have HBI7 := Lib.hid (bl_trans HBI.out HB7.out)
            obtain ⟨F, hF⟩ : ∃ F : Int, F = ((f r L : Nat) : Int) := ⟨_, rfl⟩
            rw [← hF] at HPC ⊢
            clear hb7 HOC hF
            rcases Bool.eq_false_or_eq_true (F != P) with gp | gp
            · have HY := Lib.hid (HYY.out (by rw [HPC.out]; exact gp))
              have HOW2 := Lib.hid (own_mono (base := w.heap.size) HO7.out (by have h1 := HBBi.out.size; have h2 := HB2.out.size; omega))
              go_wp2
              go_ret3
              exact ⟨_, by rw [HY.out.1, HY.out.2.2]; rfl, by rw [HY.out.2.1, HLB.out]; exact HOW2.out, bl_trans HB2.out (bl_trans HBBi.out HB7.out)⟩
            · have HN : Hid (p r c = false) := Lib.hid (by rw [HPC.out]; exact gp)
              go_wp2
              go_roundw
              case rel => exact ⟨c + 1, by omega, by go_num, Lib.hid (fun d hd => by rcases Nat.lt_succ_iff_lt_or_eq.1 hd with h | h; exact HC.out d h; rw [h]; exact HN.out), HBI7.out⟩
              case measure => simp [intOf]; omega
          · have HCR : Hid (c = R) := Lib.hid (by omega)
            have hcI : ¬ (c : Int) < R := by omega
            go_wp2
            go_roundw
            case rel => exact ⟨r + 1, by omega, by go_num, Lib.hid (fun j hj d hd => by rcases Nat.lt_succ_iff_lt_or_eq.1 hj with h | h; exact HP.out j h d hd; rw [h]; exact HC.out d (by rw [HCR.out]; exact hd)), HBBi.out⟩
            case measure => simp [intOf]; omega
      · have HRR : Hid (r = R) := Lib.hid (by omega)
        have hrI : ¬ (r : Int) < R := by omega
        have HNN := Lib.hid (HNO.out (fun j hj d hd => HP.out j (by rw [HRR.out]; exact hj) d hd))
        have HBB := Lib.hid (bl_trans HB2.out hb)
        clear hb
        go_wp2
        go_ret3
        exact ⟨_, by rw [HNN.out.1, HNN.out.2.2]; rfl, by rw [HNN.out.2.1]; exact World.ownsRow_nil _ _ _ _, HBB.out⟩
  · obtain ⟨e1, e2, e3⟩ := us_bad m b g1
    rw [e1, e2, e3]
    have hcs := stCode_cases m b g1
    clear e1 e2 e3 g1
    rcases hcs with ⟨g1, g2⟩ | ⟨g1, g3, g2⟩ | ⟨g1, g3, g4, g2⟩
    · rw [g2]
      rw [g1] at HVM
      clear g1 g2
      go_enter Tryz.func26, Tryz.ntmps26
      go_wp2_with fail
      refine (HVM.out _ HBA.out).mono ?_
      rintro e w1 ⟨rfl, hb1⟩
      have hb01 := bl_trans HBA.out hb1
      go_wp2
      go_ret3
      exact ⟨_, rfl, World.ownsRow_nil _ _ _ _, hb01⟩
    · rw [g2]
      rw [g1] at HVM
      rw [g3] at HLT
      clear g1 g2 g3
      go_enter Tryz.func26, Tryz.ntmps26
      go_wp2_with fail
      refine (HVM.out _ HBA.out).mono ?_
      rintro e w1 ⟨rfl, hb1⟩
      have hb01 := bl_trans HBA.out hb1
      go_wp2_with (go_at_call 64; refine (HLT.out _).mono ?_; rintro e w' ⟨rfl, rfl⟩)
      go_ret3
      exact ⟨_, rfl, World.ownsRow_nil _ _ _ _, hb01⟩
    · rw [g2]
      rw [g1] at HVM
      rw [g3] at HLT
      clear g1 g2 g3
      go_enter Tryz.func26, Tryz.ntmps26
      go_wp2_with fail
      refine (HVM.out _ HBA.out).mono ?_
      rintro e w1 ⟨rfl, hb1⟩
      have hb01 := bl_trans HBA.out hb1
      obtain ⟨X0, -, -, -, x3, -⟩ := HXB.out.step hb1
      go_wp2_with (go_at_call 64; refine (HLT.out _).mono ?_; rintro e w' ⟨rfl, rfl⟩)
      go_ret3
      exact ⟨_, rfl, World.ownsRow_nil _ _ _ _, hb01⟩
def stdyB (c : Int) : Bool := c == 6
def stdyC (c : Int) : Int := if c = 6 then 0 else c
theorem isSteady_any (m : Mc) (v : Value) (b : Int) (w : World) (h : MVc w v m) (hok : m.ok) (hn : m.bd.ps.length ≤ 10000000) (hn1 : m.ins.length ≤ 10000000) (hn2 : m.outs.length ≤ 10000000) :
    Calls Tryz.prog 25 #[v, .int .i64 b] w fun e w' => e = .returned (.tuple #[.bool (stdyB (usCode m b)), .int .i64 (stdyC (usCode m b))]) ∧ Below w.heap.size w w' := by
  have HC := Lib.hid (fun w1 (hb : Below w.heap.size w w1) => firstUnsteady_any m v b w1 (h.step hb) hok hn hn1 hn2)
  obtain ⟨sa, scap, ia, icap, oa, ocap, rfl, hcap, hps, hins, houts⟩ := h
  have HBA := Lib.hid (show Below w.heap.size w (w.alloc (.cells #[.int .i8 m.bd.wd, .int .i8 m.bd.hg, .slice sa m.bd.ps.length scap, .slice ia m.ins.length icap, .slice oa m.outs.length ocap] 55)) from bl_alloc (Below.refl _ _))
  obtain ⟨K, hK⟩ : ∃ K, K = usCode m b := ⟨_, rfl⟩
  rw [← hK] at HC ⊢
  clear hK
  rcases Int.decEq K 6 with hne | heq
  · have gk : (K == 6) = false := by simpa using hne
    rcases Int.decEq K 0 with hn0 | heq0
    · have gk0 : (K == 0) = false := by simpa using hn0
      have HR : Hid (stdyB K = false ∧ stdyC K = K) := Lib.hid ⟨gk, if_neg hne⟩
      rw [HR.out.1, HR.out.2]
      clear hne hn0
      go_enter Tryz.func25, Tryz.ntmps25
      go_wp2_with fail
      refine (HC.out _ HBA.out).mono ?_
      rintro e w1 ⟨v1, rfl, -, hb1⟩
      have hb01 := bl_trans HBA.out hb1
      go_wp2
      go_ret2
      exact ⟨rfl, hb01⟩
    · have gk0 : (K == 0) = true := by simpa using heq0
      have HR : Hid (stdyB K = false ∧ stdyC K = 0) := Lib.hid ⟨gk, by rw [heq0]; rfl⟩
      rw [HR.out.1, HR.out.2]
      clear hne heq0
      go_enter Tryz.func25, Tryz.ntmps25
      go_wp2_with fail
      refine (HC.out _ HBA.out).mono ?_
      rintro e w1 ⟨v1, rfl, -, hb1⟩
      have hb01 := bl_trans HBA.out hb1
      go_wp2
      go_ret2
      exact ⟨rfl, hb01⟩
  · have gk : (K == 6) = true := by simpa using heq
    have gk0 : (K == 0) = false := by rw [heq]; rfl
    have HR : Hid (stdyB K = true ∧ stdyC K = 0) := Lib.hid ⟨gk, if_pos heq⟩
    rw [HR.out.1, HR.out.2]
    clear heq
    go_enter Tryz.func25, Tryz.ntmps25
    go_wp2_with fail
    refine (HC.out _ HBA.out).mono ?_
    rintro e w1 ⟨v1, rfl, -, hb1⟩
    have hb01 := bl_trans HBA.out hb1
    go_wp2
    go_ret2
    exact ⟨rfl, hb01⟩
end Go.Proofs.YtmeefmoblkiebaaGreat
/- Falls of which each follows from the others exist: plain law; and what follows for runOf. -/
namespace Go.Proofs.YtmeefmoblkiebaaGreat
open Go.RowKit
set_option linter.unusedVariables false
set_option linter.unusedSimpArgs false
set_option maxHeartbeats 400000
set_option maxRecDepth 100000
theorem bestH_iff (xs : List Ht) (m : Ht) : bestH xs = some m ↔ m ∈ xs ∧ ∀ x ∈ xs, ltH x m = false := by
  constructor
  · intro h; exact ⟨bestH_mem xs m h, bestH_le xs m h⟩
  · rintro ⟨h1, h2⟩
    cases hb : bestH xs with
    | none => rw [bestH_none xs hb] at h1; cases h1
    | some k =>
      have h3 := bestH_le xs k hb m h1
      have h4 := h2 k (bestH_mem xs k hb)
      rw [ltH_total h4 h3]
theorem dueC_move (ps : List Pc) (pl : List Pu) (fs gs : List Fa) (hf : fs.length = ps.length) (hg : gs.length = ps.length) (hd : ∀ j, j < ps.length → 1 ≤ (ps.getD j default).d) (T : Int)
    (hs : ∀ k, k < ps.length → (fs.getD k default).t ≠ -1 → (fs.getD k default).t < T → gs.getD k default = fs.getD k default) (i : Nat) (m : Ht) (hm : m.1 ≤ T) (h : m ∈ dueC ps pl fs i) : m ∈ dueC ps pl gs i := by
  rw [cand_mem] at h ⊢
  refine ⟨h.1, h.2.imp id ?_⟩
  rintro ⟨s, hs4, h3⟩
  obtain ⟨k, hk, -, h4, h5, h6⟩ := candN1_some ps fs i s m h3 hf
  have h7 := hd k hk
  exact ⟨s, hs4, h6 gs hg (hs k hk h4 (by omega))⟩
/-- The falls ahead of a tick. -/
def stepT (ps : List Pc) (pl : List Pu) (T : Int) (fs : List Fa) : List Fa :=
  (List.range ps.length).map fun i => if (fs.getD i default).t ≠ -1 then fs.getD i default else if (due ps pl fs i).t = T then due ps pl fs i else faOf none
theorem stepT_at (ps : List Pc) (pl : List Pu) (T : Int) (fs : List Fa) (i : Nat) (hi : i < ps.length) : (stepT ps pl T fs).getD i default = if (fs.getD i default).t ≠ -1 then fs.getD i default else if (due ps pl fs i).t = T then due ps pl fs i else faOf none := by
  unfold stepT
  rw [List.getD_eq_getElem?_getD, List.getElem?_eq_getElem (by simpa using hi)]
  simp
structure PartT (ps : List Pc) (pl : List Pu) (T : Int) (fs : List Fa) : Prop where
  len : fs.length = ps.length
  fell : ∀ i, i < ps.length → (fs.getD i default).t ≠ -1 → 0 ≤ (fs.getD i default).t ∧ (fs.getD i default).t < T ∧ fs.getD i default = due ps pl fs i
  stay : ∀ i, i < ps.length → (fs.getD i default).t = -1 → fs.getD i default = faOf none ∧ ∀ m ∈ dueC ps pl fs i, T ≤ m.1
theorem partT_zero (ps : List Pc) (pl : List Pu) (hp : ∀ p ∈ pl, 0 ≤ p.t) : PartT ps pl 0 (List.replicate ps.length (faOf none)) := by
  have hat : ∀ i, i < ps.length → (List.replicate ps.length (faOf none)).getD i default = faOf none := by
    intro i hi
    rw [List.getD_eq_getElem?_getD, List.getElem?_eq_getElem (by simpa using hi)]
    simp
  refine ⟨by simp, ?_, ?_⟩
  · intro i hi h
    rw [hat i hi] at h
    exact absurd rfl h
  · intro i hi h
    refine ⟨hat i hi, ?_⟩
    intro m hm
    rw [cand_mem] at hm
    rcases hm.2 with h1 | ⟨s, hs, h1⟩
    · exact candP_tick ps pl hp i m h1
    · obtain ⟨k, hk, -, h4, -, -⟩ := candN1_some ps _ i s m h1 (by simp)
      rw [hat k hk] at h4
      exact absurd rfl h4
theorem partT_step (ps : List Pc) (pl : List Pu) (hd : ∀ j, j < ps.length → 1 ≤ (ps.getD j default).d) (T : Int) (hT : 0 ≤ T) (fs : List Fa) (h : PartT ps pl T fs) : PartT ps pl (T + 1) (stepT ps pl T fs) := by
  have hl : (stepT ps pl T fs).length = ps.length := by simp [stepT]
  have hat := stepT_at ps pl T fs
  -- both ways up to T
  have fwd : ∀ i m, m.1 ≤ T → m ∈ dueC ps pl fs i → m ∈ dueC ps pl (stepT ps pl T fs) i := by
    intro i m hm hx
    refine dueC_move ps pl fs _ h.len hl hd T ?_ i m hm hx
    intro k hk h1 _
    rw [hat k hk, if_pos h1]
  have bwd : ∀ i m, m.1 ≤ T → m ∈ dueC ps pl (stepT ps pl T fs) i → m ∈ dueC ps pl fs i := by
    intro i m hm hx
    refine dueC_move ps pl _ fs hl h.len hd T ?_ i m hm hx
    intro k hk h1 h2
    rw [hat k hk] at h1 h2 ⊢
    by_cases h3 : (fs.getD k default).t ≠ -1
    · rw [if_pos h3]
    · rw [if_neg h3] at h1 h2
      by_cases h4 : (due ps pl fs k).t = T
      · rw [if_pos h4] at h2; omega
      · rw [if_neg h4] at h1; exact absurd rfl h1
  have best : ∀ i m, m.1 ≤ T → bestH (dueC ps pl fs i) = some m → bestH (dueC ps pl (stepT ps pl T fs) i) = some m := by
    intro i m hm hb
    rw [bestH_iff] at hb ⊢
    refine ⟨fwd i m hm hb.1, ?_⟩
    intro x hx
    by_cases hxT : x.1 ≤ T
    · exact hb.2 x (bwd i x hxT hx)
    · rw [Bool.eq_false_iff, ne_eq, ltH_iff]; omega
  have dueS : ∀ i, (due ps pl fs i).t ≠ -1 → (due ps pl fs i).t ≤ T → due ps pl (stepT ps pl T fs) i = due ps pl fs i := by
    intro i h1 h2
    unfold due at h1 h2 ⊢
    cases hm : bestH (dueC ps pl fs i) with
    | none => rw [hm] at h1; exact absurd rfl h1
    | some m =>
      rw [hm] at h2
      rw [best i m h2 hm]
  refine ⟨hl, ?_, ?_⟩
  · intro i hi h1
    rw [hat i hi] at h1 ⊢
    by_cases h3 : (fs.getD i default).t ≠ -1
    · obtain ⟨f1, f2, f3⟩ := h.fell i hi h3
      rw [if_pos h3]
      refine ⟨f1, by omega, ?_⟩
      rw [dueS i (by rw [← f3]; exact h3) (by rw [← f3]; omega)]
      exact f3
    · rw [if_neg h3] at h1 ⊢
      by_cases h4 : (due ps pl fs i).t = T
      · rw [if_pos h4]
        refine ⟨by omega, by omega, ?_⟩
        exact (dueS i (by omega) (by omega)).symm
      · rw [if_neg h4] at h1; exact absurd rfl h1
  · intro i hi h1
    rw [hat i hi] at h1 ⊢
    by_cases h3 : (fs.getD i default).t ≠ -1
    · rw [if_pos h3] at h1; exact absurd h1 h3
    · obtain ⟨s1, s2⟩ := h.stay i hi (by omega)
      rw [if_neg h3] at h1 ⊢
      by_cases h4 : (due ps pl fs i).t = T
      · rw [if_pos h4] at h1; omega
      · rw [if_neg h4]
        refine ⟨rfl, ?_⟩
        intro x hx
        by_cases hxT : x.1 ≤ T
        · have h5 := bwd i x hxT hx
          have h6 := s2 x h5
          exfalso
          unfold due at h4
          cases hm : bestH (dueC ps pl fs i) with
          | none => rw [bestH_none _ hm] at h5; cases h5
          | some m =>
            rw [hm] at h4
            have h7 : m.1 ≠ T := h4
            have h8 := s2 m (bestH_mem _ m hm)
            have h9 := bestH_le _ m hm x h5
            rw [Bool.eq_false_iff, ne_eq, ltH_iff] at h9
            omega
        · omega
def atT (ps : List Pc) (pl : List Pu) : Nat → List Fa
  | 0 => List.replicate ps.length (faOf none)
  | T + 1 => stepT ps pl T (atT ps pl T)
theorem atT_part (ps : List Pc) (pl : List Pu) (hd : ∀ j, j < ps.length → 1 ≤ (ps.getD j default).d) (hp : ∀ p ∈ pl, 0 ≤ p.t) : ∀ T : Nat, PartT ps pl T (atT ps pl T)
  | 0 => partT_zero ps pl hp
  | T + 1 => by
    have := partT_step ps pl hd T (by omega) _ (atT_part ps pl hd hp T)
    simpa [atT] using this
theorem atT_keep (ps : List Pc) (pl : List Pu) (i : Nat) (hi : i < ps.length) (T : Nat) (h : ((atT ps pl T).getD i default).t ≠ -1) : ∀ n, (atT ps pl (T + n)).getD i default = (atT ps pl T).getD i default
  | 0 => rfl
  | n + 1 => by
    have ih := atT_keep ps pl i hi T h n
    show (stepT ps pl _ (atT ps pl (T + n))).getD i default = _
    rw [stepT_at _ _ _ _ i hi, if_pos (by rw [ih]; exact h), ih]
theorem atT_end1 (ps : List Pc) (pl : List Pu) (hd : ∀ j, j < ps.length → 1 ≤ (ps.getD j default).d) (hp : ∀ p ∈ pl, 0 ≤ p.t) (i : Nat) (hi : i < ps.length) : ∃ T0, ∀ T, T0 ≤ T → (atT ps pl T).getD i default = (atT ps pl T0).getD i default := by
  by_cases h : ∃ T0, ((atT ps pl T0).getD i default).t ≠ -1
  · obtain ⟨T0, h0⟩ := h
    refine ⟨T0, ?_⟩
    intro T hT
    obtain ⟨n, rfl⟩ := Nat.exists_eq_add_of_le hT
    exact atT_keep ps pl i hi T0 h0 n
  · refine ⟨0, ?_⟩
    intro T _
    have h1 : ∀ T, (atT ps pl T).getD i default = faOf none := by
      intro T
      refine ((atT_part ps pl hd hp T).stay i hi ?_).1
      by_cases h2 : ((atT ps pl T).getD i default).t = -1
      · exact h2
      · exact absurd ⟨T, h2⟩ h
    rw [h1, h1]
theorem atT_end (ps : List Pc) (pl : List Pu) (hd : ∀ j, j < ps.length → 1 ≤ (ps.getD j default).d) (hp : ∀ p ∈ pl, 0 ≤ p.t) : ∀ n, n ≤ ps.length → ∃ T0, ∀ T, T0 ≤ T → ∀ i, i < n → (atT ps pl T).getD i default = (atT ps pl T0).getD i default
  | 0, _ => ⟨0, fun _ _ i hi => absurd hi (by omega)⟩
  | n + 1, hn => by
    obtain ⟨T1, h1⟩ := atT_end ps pl hd hp n (by omega)
    obtain ⟨T2, h2⟩ := atT_end1 ps pl hd hp n (by omega)
    refine ⟨max T1 T2, ?_⟩
    intro T hT i hi
    by_cases hin : i = n
    · subst hin
      rw [h2 T (by omega), h2 (max T1 T2) (by omega)]
    · rw [h1 T (by omega) i (by omega), h1 (max T1 T2) (by omega) i (by omega)]
theorem okFa_exists (ps : List Pc) (pl : List Pu) (hd : ∀ j, j < ps.length → 1 ≤ (ps.getD j default).d) (hp : ∀ p ∈ pl, 0 ≤ p.t) : ∃ fs, okFa ps pl fs := by
  obtain ⟨T0, h0⟩ := atT_end ps pl hd hp ps.length (Nat.le_refl _)
  have P0 := atT_part ps pl hd hp T0
  refine ⟨atT ps pl T0, P0.len, ?_, ?_⟩
  · intro i hi
    by_cases h : ((atT ps pl T0).getD i default).t = -1
    · omega
    · have := P0.fell i hi h; omega
  · intro i hi
    by_cases h : ((atT ps pl T0).getD i default).t = -1
    · rw [(P0.stay i hi h).1]
      have hnil : dueC ps pl (atT ps pl T0) i = [] := by
        apply List.eq_nil_iff_forall_not_mem.2
        intro m hm
        have hP := atT_part ps pl hd hp (max T0 (m.1.toNat + 1))
        have heq : atT ps pl (max T0 (m.1.toNat + 1)) = atT ps pl T0 := by
          apply List.ext_getElem
          · rw [hP.len, P0.len]
          · intro j hj hj2
            have hjp : j < ps.length := by rw [← P0.len]; exact hj2
            have e := h0 (max T0 (m.1.toNat + 1)) (by omega) j hjp
            rw [List.getD_eq_getElem?_getD, List.getElem?_eq_getElem hj, List.getD_eq_getElem?_getD, List.getElem?_eq_getElem hj2] at e
            exact e
        rw [heq] at hP
        have := (hP.stay i hi h).2 m hm
        omega
      unfold due
      rw [hnil]
      rfl
    · exact (P0.fell i hi h).2.2
/-- The falls of a board that is given do follow. -/
theorem runOf_ok (ps : List Pc) (pl : List Pu) (G : Good ps pl) : okFa ps pl (runOf ps pl) := by
  obtain ⟨fs, h⟩ := okFa_exists ps pl G.d1 G.t0
  have := runOf_eq ps pl fs G h
  rw [← this]; exact h
end Go.Proofs.YtmeefmoblkiebaaGreat
