import Derived.Test.YtmeefmoblkiebaaGreatK6
import Derived.Deep.RegionHeld3
import Derived.Deep.CutRange
import Derived.BigQuiet
import Derived.StillTailTactics
import Derived.OwnWalk
/- Contracts: copies of machines (the reference). -/
namespace Go.Proofs.YtmeefmoblkiebaaGreat
open Go.RowKit
set_option linter.unusedVariables false
set_option linter.unusedSimpArgs false
set_option maxHeartbeats 400000
set_option maxRecDepth 100000
/-- The three rows of a machine, owned. -/
def OwnC (w : World) (base : Nat) (s si so : Value) (m : Mc) : Prop :=
  w.ownsRow base 49 5 s m.bd.ps.length (flat Pc.cells m.bd.ps) ∧ w.ownsRow base 127 3 si m.ins.length (flat Po.cells m.ins) ∧ w.ownsRow base 47 2 so m.outs.length (flat Ce.cells m.outs)
theorem OwnC.below {w w' : World} {base : Nat} {s si so : Value} {m : Mc} (h : OwnC w base s si so m) (hb : Below w.heap.size w w') : OwnC w' base s si so m :=
  ⟨own_below h.1 hb (Nat.le_refl _), own_below h.2.1 hb (Nat.le_refl _), own_below h.2.2 hb (Nat.le_refl _)⟩
theorem OwnC.mv {w : World} {base : Nat} {s si so : Value} {m : Mc} (h : OwnC w base s si so m) : MV w (mcv m.bd.wd m.bd.hg s si so) m := ⟨s, si, so, rfl, pv_own h.1, own_rv h.2.1, own_rv h.2.2⟩
/-- 'append([]T{}, x...)' at a step of a region that draws: nothing that was there turns. -/
theorem step_append_fresh {P : Program} {ops : Array Oper} {o : Oper} {a : Act} {w : World} {K : Act → World → Prop} {Q : Exit → Act → World → Prop} {E : Prop} (hgd : o.guard = none) (s x : Operand) (t : TypeId)
    (ho : o.op = .call { callee := .builtin .append, args := #[s, x], argTypes := #[t, t] })
    (e : TypeId) (i : TypeInfo) (z : Value) (size bytes : Nat) (ht : P.underlying t = some (.slice e)) (hi : P.info? e = some i) (hz : i.zero = some z)
    (hsize : i.size = size) (hby : i.bytes = bytes) (hzs : z.cells.size = size) (hsz : 0 < size)
    (b : Addr) (hs : a.eval s = .slice (some b) 0 0)
    (ad : Option Addr) (m c : Nat) (news : List Value) (hx : a.eval x = .slice ad m c) {B : Nat} (hsl : SlAt B w ad news) (hl : news.length = m * size) (h1 : ∀ u ∈ news, u.oneCell' = true)
    (hm : 0 < m) (h63 : m ≤ maxLen) (hbytes : m * bytes ≤ 140737488355328)
    (h : ∀ a' cap' w', w'.ownsRow w.heap.size e size (.slice a' m cap') m news → Below w.heap.size w w' → K (a.put o.dst (.slice a' m cap')) w') :
    if Region.wanted o (yielded ops a.tmps) = true then Oper.wp P o a w K Q else E := by
  have hw : Region.wanted o (yielded ops a.tmps) = true := by simp [Region.wanted, hgd]
  rw [if_pos hw]
  have hrun : ∃ a' cap' w', (Builtin.append_ #[t, t] o.type #[.slice (some b) 0 0, .slice ad m c]).run P w = .ok (.slice a' m cap') w' ∧ w'.ownsRow w.heap.size e size (.slice a' m cap') m news ∧ Below w.heap.size w w' := by
    subst hsize
    subst hby
    cases ad with
    | none =>
      exfalso
      have hlp : 0 < news.length := by rw [hl]; exact Nat.mul_pos hm hsz
      obtain ⟨_, _, h0, -⟩ := hsl 0 hlp
      cases h0
    | some ad =>
      have hsmall : m ≤ 9223372036854775807 := by simp only [maxLen] at h63; omega
      have hr := run_append_grow (P := P) w t o.type e i z ht hi hz b 0 0 [] (by simp) (by simp) ad m c news hl (by
        intro j u hu
        have hj : j < news.length := (List.getElem?_eq_some_iff.1 hu).1
        obtain ⟨b, off, h0, -, h3⟩ := hsl j hj
        cases h0
        rw [List.getElem?_eq_getElem hj] at hu
        cases hu
        have : (⟨b, off, none⟩ : Addr).add j = ⟨b, off + j, none⟩ := by unfold Addr.add; split <;> simp_all
        rw [this]; exact h3) (by omega) (by omega) (growslice_fits (by omega) (by rw [Nat.zero_add]; exact hbytes))
      have hge := grownCap_ge w (0 + m) 0 e
      have hcm2 : grownCap w (0 + m) 0 e ≤ maxLen := grownCap_le_maxLen w (0 + m) 0 e (by omega)
      rw [Nat.zero_add] at hr hge hcm2
      have hown : (w.drew.alloc (Obj.cells (#[] ++ news.toArray ++ Builtin.zeroCells z.cells (grownCap w m 0 e - m)) e)).ownsRow w.heap.size e i.size (.slice (some ⟨w.heap.size, 0, none⟩) m (grownCap w m 0 e)) m news := by
        refine ⟨hl, .inr ⟨w.heap.size, _, _, rfl, Nat.le_refl _, heap_alloc_new w.drew _, ?_, hcm2, ?_, ?_⟩⟩
        · omega
        · simp only [Array.size_append, List.size_toArray, size_zeroCells, hzs, hl, List.length_nil, Nat.zero_add, ← Nat.add_mul]
          congr 1
          omega
        · simp only [Array.toList_append, List.nil_append]
          rw [← hl]
          exact List.take_left
      exact ⟨_, _, _, hr, hown, ⟨rfl, rfl, rfl, by simp, fun k hk => Below.heap_alloc w.drew _ k hk⟩⟩
  obtain ⟨a', cap', w', h2, h3, h4⟩ := hrun
  unfold Oper.wp
  simp [execOp, ho, resolve, invoke, builtin, hs, hx, h2, Result.andThen]
  exact h a' cap' w' h3 h4
theorem Tryz.infoPortU : (Tryz.prog.info? 127).map (fun i => (i.zero, i.size, i.bytes)) = some (some (.agg #[.int .i8 0, .int .i8 0, .int .i8 0]), 3, 3) := by kernel_rfl
theorem Tryz.infoCellU : (Tryz.prog.info? 47).map (fun i => (i.zero, i.size, i.bytes)) = some (some (.agg #[.int .i8 0, .int .i8 0]), 2, 2) := by kernel_rfl
theorem BF5new (w : World) (v0 v1 v2 v3 v4 : Value) (T : TypeId) : ∃ w1, w1 = w.alloc (.cells #[v0, v1, v2, v3, v4] T) ∧ w1.heap.size = w.heap.size + 1 ∧ Below w.heap.size w w1 ∧ w1.cell? ⟨w.heap.size, 0, none⟩ = some v0 ∧ w1.cell? ⟨w.heap.size, 1, none⟩ = some v1 ∧ w1.cell? ⟨w.heap.size, 2, none⟩ = some v2 ∧ w1.cell? ⟨w.heap.size, 3, none⟩ = some v3 ∧ w1.cell? ⟨w.heap.size, 4, none⟩ = some v4 ∧
    w1.frozen? ⟨w.heap.size, 0, none⟩ = false ∧ w1.frozen? ⟨w.heap.size, 1, none⟩ = false ∧ w1.frozen? ⟨w.heap.size, 2, none⟩ = false ∧ w1.frozen? ⟨w.heap.size, 3, none⟩ = false ∧ w1.frozen? ⟨w.heap.size, 4, none⟩ = false :=
  ⟨_, rfl, by simp, bl_alloc (Below.refl _ _), by simp [go_sem], by simp [go_sem], by simp [go_sem], by simp [go_sem], by simp [go_sem], by simp [go_sem], by simp [go_sem], by simp [go_sem], by simp [go_sem], by simp [go_sem]⟩
set_option maxHeartbeats 3200000 in
theorem l03Copy_any (b0 : Nat) (m : Mc) (w : World) (h : MP w b0 m) (hn : m.bd.ps.length ≤ 10000) (hn1 : m.ins.length ≤ 10000) (hn2 : m.outs.length ≤ 10000) (hp1 : 0 < m.ins.length) (hp2 : 0 < m.outs.length) :
    Calls Tryz.prog 87 #[.pointer (some ⟨b0, 0, none⟩)] w fun e w' => ∃ s si so, e = .returned (mcv m.bd.wd m.bd.hg s si so) ∧ OwnC w' w.heap.size s si so m ∧ Below w.heap.size w w' := by
  have HLC := Lib.hid (fun w1 (hb : Below w.heap.size w w1) => l01Copy_any b0 m.bd w1 (h.step hb).bp hn)
  obtain ⟨hbl, s, si, so, ⟨⟨c0, c1, c2⟩, c3, c4⟩, -, ⟨ia, icap, rfl, hins⟩, ⟨oa, ocap, rfl, houts⟩⟩ := h
  obtain ⟨i0, hi0, hiz0, hiz1, hiz2⟩ := info_parts Tryz.infoPortU
  obtain ⟨j0, hj0, hjz0, hjz1, hjz2⟩ := info_parts Tryz.infoCellU
  have HBF := Lib.hid (BF5new w (.int .i8 0) (.int .i8 0) (.slice none 0 0) (.slice none 0 0) (.slice none 0 0) 55)
  clear c0 c1 c2
  go_enter Tryz.func87, Tryz.ntmps87
  go_wp2_with fail
  obtain ⟨w1, hw1, hz1, hb1, x0, x1, x2, x3, x4, f0, f1, f2, f3, f4⟩ := HBF.out
  rw [← hw1]
  obtain ⟨g, hg⟩ : ∃ g, g = w.heap.size := ⟨_, rfl⟩
  rw [← hg] at x0 x1 x2 x3 x4 f0 f1 f2 f3 f4 ⊢
  have hgl1 : g < w1.heap.size := by omega
  have hgl : w.heap.size ≤ g := by omega
  have hzw : w.heap.size < w1.heap.size := by omega
  have HIN := Lib.hid (fun w2 (hb : Below w.heap.size w w2) => hins.below hb (Nat.le_refl _))
  have HOU := Lib.hid (fun w2 (hb : Below w.heap.size w w2) => houts.below hb (Nat.le_refl _))
  clear hw1 hg hz1 hins houts
  have HX := Lib.hid (And.intro x0 (And.intro x1 (And.intro x2 (And.intro x3 x4))))
  have HXF := Lib.hid (And.intro f0 (And.intro f1 (And.intro f2 (And.intro f3 f4))))
  go_region_held3 (fun w' => Below w.heap.size w w' ∧ ∀ b o, b < w.heap.size → w'.cell? ⟨b, o, none⟩ = w.cell? ⟨b, o, none⟩) ((refine ext_s ?_; exact (by repeat (first | with_reducible exact Below.refl _ _ | with_reducible assumption | with_reducible apply bl_drewN | with_reducible apply bl_drew | with_reducible apply bl_alloc | (with_reducible refine bl_set ?_ (by first | (simp; done) | (simp; omega)) _) | with_reducible refine bl_trans ?_ (by with_reducible assumption))))) (first | (go_at_call 140; refine (HLC.out _ ?_).mono ?_; (exact (by repeat (first | with_reducible exact Below.refl _ _ | with_reducible assumption | with_reducible apply bl_drewN | with_reducible apply bl_drew | with_reducible apply bl_alloc | (with_reducible refine bl_set ?_ (by first | (simp; done) | (simp; omega)) _) | with_reducible refine bl_trans ?_ (by with_reducible assumption)))); rintro e wa ⟨va, rfl, Oa, ba⟩; obtain ⟨aa, capa, rfl, -⟩ := own_at Oa; have bA : Below w1.heap.size w1 wa := (by repeat (first | with_reducible exact Below.refl _ _ | with_reducible assumption | with_reducible apply bl_drewN | with_reducible apply bl_drew | with_reducible apply bl_alloc | (with_reducible refine bl_set ?_ (by first | (simp; done) | (simp; omega)) _) | with_reducible refine bl_trans ?_ (by with_reducible assumption))); obtain ⟨hca, hfa⟩ := bcell bA; have hzA := bA.size; have Oa := own_mono (base := w1.heap.size) Oa (by first | exact Nat.le_refl _ | omega | (simp; done) | (simp; omega)); clear bA) | (refine step_append_fresh (by rfl) _ _ _ (by rfl) 127 i0 _ 3 3 Tryz.underlying52 hi0 hiz0 hiz1 hiz2 rfl (by omega) ⟨_, 0, none⟩ (by rfl) ia m.ins.length icap (flat Po.cells m.ins) (by rfl) (HIN.out _ (by repeat (first | with_reducible exact Below.refl _ _ | with_reducible assumption | with_reducible apply bl_drewN | with_reducible apply bl_drew | with_reducible apply bl_alloc | (with_reducible refine bl_set ?_ (by first | (simp; done) | (simp; omega)) _) | with_reducible refine bl_trans ?_ (by with_reducible assumption)))) (flat_length Po.len m.ins) (one_cells Po.one m.ins) hp1 (by unfold maxLen; omega) (by omega) ?_; intro ai capi wi Oi bi; have bI : Below w1.heap.size w1 wi := (by repeat (first | with_reducible exact Below.refl _ _ | with_reducible assumption | with_reducible apply bl_drewN | with_reducible apply bl_drew | with_reducible apply bl_alloc | (with_reducible refine bl_set ?_ (by first | (simp; done) | (simp; omega)) _) | with_reducible refine bl_trans ?_ (by with_reducible assumption))); obtain ⟨hci, hfi⟩ := bcell bI; have hzI := bI.size; have Oi := own_mono (base := w1.heap.size) Oi (by first | exact Nat.le_refl _ | omega | (simp; done) | (simp; omega)); clear bI) | (refine step_append_fresh (by rfl) _ _ _ (by rfl) 47 j0 _ 2 2 Tryz.underlying53 hj0 hjz0 hjz1 hjz2 rfl (by omega) ⟨_, 0, none⟩ (by rfl) oa m.outs.length ocap (flat Ce.cells m.outs) (by rfl) (HOU.out _ (by repeat (first | with_reducible exact Below.refl _ _ | with_reducible assumption | with_reducible apply bl_drewN | with_reducible apply bl_drew | with_reducible apply bl_alloc | (with_reducible refine bl_set ?_ (by first | (simp; done) | (simp; omega)) _) | with_reducible refine bl_trans ?_ (by with_reducible assumption)))) (flat_length Ce.len m.outs) (one_cells Ce.one m.outs) hp2 (by unfold maxLen; omega) (by omega) ?_; intro ao capo wo Oo bo; have bO : Below w1.heap.size w1 wo := (by repeat (first | with_reducible exact Below.refl _ _ | with_reducible assumption | with_reducible apply bl_drewN | with_reducible apply bl_drew | with_reducible apply bl_alloc | (with_reducible refine bl_set ?_ (by first | (simp; done) | (simp; omega)) _) | with_reducible refine bl_trans ?_ (by with_reducible assumption))); obtain ⟨hco, hfo⟩ := bcell bO; have hzO := bO.size; have Oo := own_mono (base := w1.heap.size) Oo (by first | exact Nat.le_refl _ | omega | (simp; done) | (simp; omega)); clear bO))
  all_goals
    go_wp2
    refine bodyPost_ret (v := mcv m.bd.wd m.bd.hg (.slice aa m.bd.ps.length capa) (.slice ai m.ins.length capi) (.slice ao m.outs.length capo)) (by simp [results, Tryz.results87, go_sem, hca, hci, hco, hgl1, x0, x1, x2, x3, x4]) rfl ⟨_, _, _, rfl, ⟨?_, ?_, ?_⟩, ?_⟩
    · refine own_mono (base' := w1.heap.size) ?_ (by omega)
      repeat (with_reducible refine ownsRow_setCell_below ?_ (by first | (simp; done) | (simp; omega)) _)
      exact own_below Oa (by repeat (first | with_reducible exact Below.refl _ _ | with_reducible assumption | with_reducible apply bl_drewN | with_reducible apply bl_drew | with_reducible apply bl_alloc | (with_reducible refine bl_set ?_ (by first | (simp; done) | (simp; omega)) _) | with_reducible refine bl_trans ?_ (by with_reducible assumption))) (Nat.le_refl _)
    · refine own_mono (base' := w1.heap.size) ?_ (by omega)
      repeat (with_reducible refine ownsRow_setCell_below ?_ (by first | (simp; done) | (simp; omega)) _)
      exact own_below Oi (by repeat (first | with_reducible exact Below.refl _ _ | with_reducible assumption | with_reducible apply bl_drewN | with_reducible apply bl_drew | with_reducible apply bl_alloc | (with_reducible refine bl_set ?_ (by first | (simp; done) | (simp; omega)) _) | with_reducible refine bl_trans ?_ (by with_reducible assumption))) (Nat.le_refl _)
    · refine own_mono (base' := w1.heap.size) ?_ (by omega)
      repeat (with_reducible refine ownsRow_setCell_below ?_ (by first | (simp; done) | (simp; omega)) _)
      exact own_below Oo (by repeat (first | with_reducible exact Below.refl _ _ | with_reducible assumption | with_reducible apply bl_drewN | with_reducible apply bl_drew | with_reducible apply bl_alloc | (with_reducible refine bl_set ?_ (by first | (simp; done) | (simp; omega)) _) | with_reducible refine bl_trans ?_ (by with_reducible assumption))) (Nat.le_refl _)
    · refine bl_set (bl_set (bl_set (bl_set (bl_set ?_ hgl _) hgl _) hgl _) hgl _) hgl _
      exact (by repeat (first | with_reducible exact Below.refl _ _ | with_reducible assumption | with_reducible apply bl_drewN | with_reducible apply bl_drew | with_reducible apply bl_alloc | (with_reducible refine bl_set ?_ (by first | (simp; done) | (simp; omega)) _) | with_reducible refine bl_trans ?_ (by with_reducible assumption)))
end Go.Proofs.YtmeefmoblkiebaaGreat
/- Contracts: a machine without a piece (the reference). -/
namespace Go.Proofs.YtmeefmoblkiebaaGreat
open Go.RowKit
set_option linter.unusedVariables false
set_option linter.unusedSimpArgs false
set_option maxHeartbeats 400000
set_option maxRecDepth 100000
theorem slAt_drop {B : Nat} {w : World} {b off : Nat} {ys zs : List Value} (h : SlAt B w (some ⟨b, off, none⟩) (ys ++ zs)) : SlAt B w (some ⟨b, off + ys.length, none⟩) zs := by
  intro j hj
  obtain ⟨b', off', h1, h2, h3⟩ := h (ys.length + j) (by rw [List.length_append]; omega)
  simp only [Option.some.injEq, Addr.mk.injEq, and_true] at h1
  obtain ⟨rfl, rfl⟩ := h1
  refine ⟨b, off + ys.length, rfl, h2, ?_⟩
  rw [Nat.add_assoc, h3]
  congr 1
  rw [List.getElem_append_right (by omega)]
  simp
theorem own_setNe {w : World} {base e k n : Nat} {v : Value} {xs : List Value} (h : w.ownsRow base e k v n xs) (p j : Nat) (u : Value) (hne : ∀ q, v.ownBlock = some q → q ≠ p) : (w.setCell ⟨p, j, none⟩ u).ownsRow base e k v n xs :=
  own_kept h (grown_set w p j u) (fun q hq e => hne q hq (by cases e; rfl))
/-- The pieces' slice of a machine in a block has the room that it says. -/
def CapOk (w : World) (b0 : Nat) : Prop := ∀ a n cap, w.cell? ⟨b0, 2, none⟩ = some (.slice a n cap) → n ≤ cap
theorem CapOk.step {w w' : World} {b0 : Nat} (h : CapOk w b0) (hl : b0 < w.heap.size) (hb : Below w.heap.size w w') : CapOk w' b0 := by
  intro a n cap hc
  rw [hb.cell (p := ⟨b0, 2, none⟩) hl] at hc
  exact h a n cap hc
set_option maxHeartbeats 3200000 in
theorem l03Without_any (b0 : Nat) (m : Mc) (i : Nat) (w : World) (h : MP w b0 m) (hi : i < m.bd.ps.length) (hn : m.bd.ps.length ≤ 10000) (hn1 : m.ins.length ≤ 10000) (hn2 : m.outs.length ≤ 10000) (hp1 : 0 < m.ins.length) (hp2 : 0 < m.outs.length) (hco : CapOk w b0) :
    Calls Tryz.prog 89 #[.pointer (some ⟨b0, 0, none⟩), .int .i64 i] w fun e w' => ∃ s si so, e = .returned (mcv m.bd.wd m.bd.hg s si so) ∧ OwnC w' w.heap.size s si so (woMc m i) ∧ Below w.heap.size w w' := by
  have HLC := Lib.hid (fun w1 (hb : Below w.heap.size w w1) => l03Copy_any b0 m w1 (h.step hb) hn hn1 hn2 hp1 hp2)
  have HLE : Hid ((m.bd.ps.eraseIdx i).length = i + (m.bd.ps.length - (i + 1))) := Lib.hid (by rw [List.length_eraseIdx, if_pos hi]; omega)
  have HEE : Hid (flat Pc.cells (m.bd.ps.take i) ++ flat Pc.cells (m.bd.ps.drop (i + 1)) = flat Pc.cells (m.bd.ps.eraseIdx i)) := Lib.hid (by rw [← flat_append, ← erase_eq])
  obtain ⟨hbl, s, si, so, ⟨⟨c0, c1, c2⟩, c3, c4⟩, ⟨pa, pcap, rfl, hps⟩, -, -⟩ := h
  obtain ⟨pb, poff, hpa, -, -⟩ := pcs_get hps hi
  subst hpa
  have hsp := split_at m.bd.ps i hi
  have hS1 : SlAt w.heap.size w (some ⟨pb, poff, none⟩) (flat Pc.cells (m.bd.ps.take i)) := slAt_take hps i
  have HFL : (flat Pc.cells (m.bd.ps.take i)).length = i * 5 := by rw [flat_length Pc.len, List.length_take, Nat.min_eq_left (by omega)]
  have hS2 : SlAt w.heap.size w (some ⟨pb, poff + (i + 1) * 5, none⟩) (flat Pc.cells (m.bd.ps.drop (i + 1))) := by
    have h1 : flat Pc.cells m.bd.ps = flat Pc.cells (m.bd.ps.take (i + 1)) ++ flat Pc.cells (m.bd.ps.drop (i + 1)) := by rw [← flat_append, List.take_append_drop]
    have h2 : (flat Pc.cells (m.bd.ps.take (i + 1))).length = (i + 1) * 5 := by rw [flat_length Pc.len, List.length_take, Nat.min_eq_left (by omega)]
    have h3 : SlAt w.heap.size w (some ⟨pb, poff, none⟩) (flat Pc.cells (m.bd.ps.take (i + 1)) ++ flat Pc.cells (m.bd.ps.drop (i + 1))) := by rw [← h1]; exact hps
    have h4 := slAt_drop h3
    rwa [h2] at h4
  have hpc := hco _ _ _ c2
  have hdl0 : (flat Pc.cells (m.bd.ps.drop (i + 1))).length = (m.bd.ps.length - (i + 1)) * 5 := by rw [flat_length Pc.len, List.length_drop]
  obtain ⟨A, hA, hnews⟩ : ∃ A : Addr, (if pcap = i + 1 then some (⟨pb, poff, none⟩ : Addr) else some ⟨pb, poff + (i + 1) * 5, none⟩) = some A ∧ Hid (SlAt w.heap.size w (some A) (flat Pc.cells (m.bd.ps.drop (i + 1)))) := by
    by_cases hc : pcap = i + 1
    · refine ⟨_, by rw [if_pos hc], Lib.hid (fun j hj => ?_)⟩
      rw [hdl0] at hj
      omega
    · exact ⟨_, by rw [if_neg hc], Lib.hid hS2⟩
  obtain ⟨pn, hpn⟩ : ∃ pn, pn = m.bd.ps.length := ⟨_, rfl⟩
  rw [← hpn] at c2 hi hn hpc hdl0 HLE
  obtain ⟨T1, hT1⟩ : ∃ T1, T1 = flat Pc.cells (m.bd.ps.take i) := ⟨_, rfl⟩
  obtain ⟨T2, hT2⟩ : ∃ T2, T2 = flat Pc.cells (m.bd.ps.drop (i + 1)) := ⟨_, rfl⟩
  have HO1 : Hid (∀ u ∈ T1, u.oneCell' = true) := Lib.hid (by rw [hT1]; exact one_cells Pc.one _)
  have HO2 : Hid (∀ u ∈ T2, u.oneCell' = true) := Lib.hid (by rw [hT2]; exact one_cells Pc.one _)
  rw [← hT1] at hS1 HFL HEE
  rw [← hT2] at hnews hdl0 HEE
  have HS1 := Lib.hid (fun w2 (hb : Below w.heap.size w w2) => hS1.below hb (Nat.le_refl _))
  have HS2 := Lib.hid (fun w2 (hb : Below w.heap.size w w2) => hnews.out.below hb (Nat.le_refl _))
  have HF1 := Lib.hid HFL
  have HF2 := Lib.hid hdl0
  obtain ⟨i0, hi0, hiz0, hiz1, hiz2⟩ := info_parts Tryz.infoPiece
  have HBF := Lib.hid (BF5new w (.int .i8 0) (.int .i8 0) (.slice none 0 0) (.slice none 0 0) (.slice none 0 0) 55)
  have hwr : IntKind.i64.wrap ((i : Int) + 1) = (i : Int) + 1 := by rw [IntKind.wrap_i64]; omega
  have hp0 : (0 : Int) ≤ (i : Int) + 1 := by omega
  have hpp1 : (i : Int) + 1 ≤ (pn : Int) := by omega
  have hpp2 : ((i : Int) + 1).toNat = i + 1 := by omega
  have hic : i ≤ pcap := by omega
  have hic2 : (i : Int) ≤ pcap := by omega
  have hic3 : (0 : Int) ≤ i := by omega
  have hsum : i + (pn - (i + 1)) ≤ 10000 := by omega
  clear c0 c1 c3 c4 hps hsp hS1 hS2 hnews hT1 hT2 HFL hdl0 hpn hco
  go_enter Tryz.func89, Tryz.ntmps89
  go_wp2_with fail
  obtain ⟨w1, hw1, hz1, hb1, x0, x1, x2, x3, x4, f0, f1, f2, f3, f4⟩ := HBF.out
  rw [← hw1]
  obtain ⟨g, hg⟩ : ∃ g, g = w.heap.size := ⟨_, rfl⟩
  rw [← hg] at x0 x1 x2 x3 x4 f0 f1 f2 f3 f4 ⊢
  have hgl1 : g < w1.heap.size := by omega
  have hgl : w.heap.size ≤ g := by omega
  have hzw : w.heap.size < w1.heap.size := by omega
  have HX := Lib.hid (And.intro x0 (And.intro x1 (And.intro x2 (And.intro x3 x4))))
  have HXF := Lib.hid (And.intro f0 (And.intro f1 (And.intro f2 (And.intro f3 f4))))
  clear hw1 hg hz1 x0 x1 x2 x3 x4 f0 f1 f2 f3 f4
  refine (HLC.out _ hb1).mono ?_
  rintro e w2 ⟨s2, si2, so2, rfl, OC, hb2⟩
  obtain ⟨as2, cs2, rfl, -⟩ := own_at OC.1
  obtain ⟨ai2, ci2, rfl, -⟩ := own_at OC.2.1
  obtain ⟨ao2, co2, rfl, -⟩ := own_at OC.2.2
  have HOC := Lib.hid OC
  have b02 := bl_trans hb1 hb2
  have hz2 := hb2.size
  have HBF2 := Lib.hid (BF5new w2 (.int .i8 m.bd.wd) (.int .i8 m.bd.hg) (.slice as2 m.bd.ps.length cs2) (.slice ai2 m.ins.length ci2) (.slice ao2 m.outs.length co2) 55)
  clear OC
  go_upto_region 2 with fail
  obtain ⟨w3, hw3, hz3, hb3, y0, y1, y2, y3, y4, k0, k1, k2, k3, k4⟩ := HBF2.out
  rw [← hw3]
  obtain ⟨g5, hg5⟩ : ∃ g5, g5 = w2.heap.size := ⟨_, rfl⟩
  rw [← hg5] at y0 y1 y2 y3 y4 k0 k1 k2 k3 k4 ⊢
  have hg5l : g5 < w3.heap.size := by omega
  have hgg5 : g < g5 := by omega
  have hg5w : w.heap.size ≤ g5 := by omega
  have b03 := bl_trans b02 hb3
  have hzw3 : w1.heap.size ≤ w3.heap.size := by omega
  have hbl3 : b0 < w3.heap.size := by omega
  have hgl3 : g < w3.heap.size := by omega
  have HW3 := Lib.hid (fun u (hb : Below w3.heap.size w3 u) => bl_trans b03 hb)
  have HB13 := Lib.hid (bl_trans hb2 hb3)
  have HOC3 := Lib.hid (HOC.out.below hb3)
  have HNI : Hid (∀ q, (Value.slice ai2 m.ins.length ci2).ownBlock = some q → q < g5 ∧ g < q) := Lib.hid (fun q hq => by have := HOC.out.2.1.lt q hq; omega)
  have HNO : Hid (∀ q, (Value.slice ao2 m.outs.length co2).ownBlock = some q → q < g5 ∧ g < q) := Lib.hid (fun q hq => by have := HOC.out.2.2.lt q hq; omega)
  clear hw3 hg5 hz3 hz2
  go_region_held3 (fun w' => Below w.heap.size w w' ∧ ∀ b o, b < w.heap.size → w'.cell? ⟨b, o, none⟩ = w.cell? ⟨b, o, none⟩) ((refine ext_s ?_; exact (by repeat (first | with_reducible exact Below.refl _ _ | with_reducible assumption | with_reducible apply bl_drewN | with_reducible apply bl_drew | with_reducible apply bl_alloc | (with_reducible refine bl_set ?_ (by first | (simp; done) | (simp; omega)) _) | with_reducible refine bl_trans ?_ (by with_reducible assumption))))) (first | (refine step_append_sl (by rfl) _ _ _ (by rfl) w3.heap.size 49 i0 _ 5 5 Tryz.underlying25 hi0 hiz0 hiz1 hiz2 rfl (by omega) (.slice (some ⟨_, 0, none⟩) 0 0) 0 [] (by rfl) (own_mono (World.ownsRow_made _ #[] 0 (Nat.le_refl _) (by simp [maxLen]) rfl) (by first | omega | (simp; done) | (simp; omega))) (some ⟨pb, poff, none⟩) i pcap T1 (by rfl) (HS1.out _ (by repeat (first | with_reducible exact Below.refl _ _ | with_reducible assumption | with_reducible apply bl_drewN | with_reducible apply bl_drew | with_reducible apply bl_alloc | (with_reducible refine bl_set ?_ (by first | (simp; done) | (simp; omega)) _) | with_reducible refine bl_trans ?_ (by with_reducible assumption)))) HF1.out HO1.out (by unfold maxLen; omega) (by omega) (by first | omega | (simp; done) | (simp; omega)) ?_; intro v4 w4 hown4 hgrow4 hblk4; have b4 : Below w3.heap.size w3 w4 := bl_grown (by repeat (first | with_reducible exact Below.refl _ _ | with_reducible assumption | with_reducible apply bl_drewN | with_reducible apply bl_drew | with_reducible apply bl_alloc | (with_reducible refine bl_set ?_ (by first | (simp; done) | (simp; omega)) _) | with_reducible refine bl_trans ?_ (by with_reducible assumption))) hgrow4 (by intro k hk; have hk2 : some _ = some k := hk; cases hk2; first | exact Nat.le_refl _ | (simp; done) | (simp; omega)); have hz4 := b4.size; rw [Nat.zero_add, List.nil_append] at hown4; obtain ⟨a4, cap4, rfl, -⟩ := own_at hown4) | (refine step_append_sl (by rfl) _ _ _ (by rfl) w3.heap.size 49 i0 _ 5 5 Tryz.underlying25 hi0 hiz0 hiz1 hiz2 rfl (by omega) (.slice a4 i cap4) i T1 (by rfl) hown4 (some A) (pn - (i + 1)) (pcap - (i + 1)) T2 (by rfl) (HS2.out _ (HW3.out _ b4)) HF2.out HO2.out (by unfold maxLen; omega) (by omega) (by omega) ?_; intro v5 w5 hown5 hgrow5 hblk5; have b5 : Below w3.heap.size w3 w5 := bl_grown b4 hgrow5 (fun k hk => (hown4.lt k hk).1); have hz5 := b5.size; obtain ⟨a5, cap5, rfl, -⟩ := own_at hown5; obtain ⟨hc5, hf5⟩ := bcell b5))
  have e0 : w5.cell? ⟨g5, 0, none⟩ = some (.int .i8 m.bd.wd) := by rw [hc5 _ _ hg5l]; exact y0
  have e1 : w5.cell? ⟨g5, 1, none⟩ = some (.int .i8 m.bd.hg) := by rw [hc5 _ _ hg5l]; exact y1
  have e2 : w5.cell? ⟨g5, 2, none⟩ = some (.slice as2 m.bd.ps.length cs2) := by rw [hc5 _ _ hg5l]; exact y2
  have e3 : w5.cell? ⟨g5, 3, none⟩ = some (.slice ai2 m.ins.length ci2) := by rw [hc5 _ _ hg5l]; exact y3
  have e4 : w5.cell? ⟨g5, 4, none⟩ = some (.slice ao2 m.outs.length co2) := by rw [hc5 _ _ hg5l]; exact y4
  have hgz : ∀ o v, w1.cell? ⟨g, o, none⟩ = some v → w5.cell? ⟨g, o, none⟩ = some v := fun o v h => by rw [hc5 _ _ hgl3, HB13.out.cell (p := ⟨g, o, none⟩) hgl1]; exact h
  have hgf : ∀ o, w1.frozen? ⟨g, o, none⟩ = false → w5.frozen? ⟨g, o, none⟩ = false := fun o h => by rw [hf5 _ _ hgl3, HB13.out.frozen (p := ⟨g, o, none⟩) hgl1]; exact h
  obtain ⟨z0, z1, z2, z3, z4⟩ := HX.out
  obtain ⟨h0, h1, h2, h3, h4⟩ := HXF.out
  have q0 := hgz _ _ z0
  have q1 := hgz _ _ z1
  have q2 := hgz _ _ z2
  have q3 := hgz _ _ z3
  have q4 := hgz _ _ z4
  have r0 := hgf _ h0
  have r1 := hgf _ h1
  have r2 := hgf _ h2
  have r3 := hgf _ h3
  have r4 := hgf _ h4
  have HO5 := Lib.hid hown5
  have HOC5 := Lib.hid (HOC3.out.below b5)
  have HB5 := Lib.hid (bl_trans b03 b5)
  have hne5 : g ≠ g5 := by omega
  clear hgz hgf z0 z1 z2 z3 z4 h0 h1 h2 h3 h4 hc5 hf5 hown5 hgrow5 hown4 hgrow4 b5 b4 y0 y1 y2 y3 y4 k0 k1 k2 k3 k4
  go_wp2
  refine bodyPost_ret (v := mcv m.bd.wd m.bd.hg (.slice a5 (i + (pn - (i + 1))) cap5) (.slice ai2 m.ins.length ci2) (.slice ao2 m.outs.length co2)) (by simp [results, Tryz.results89, go_sem, q0, q1, q2, q3, q4, hne5]) rfl ⟨_, _, _, rfl, ⟨?_, ?_, ?_⟩, ?_⟩
  · show World.ownsRow _ _ _ _ _ (m.bd.ps.eraseIdx i).length (flat Pc.cells (m.bd.ps.eraseIdx i))
    rw [HLE.out, ← HEE.out]
    refine own_mono (base' := w3.heap.size) ?_ (by omega)
    repeat (with_reducible refine ownsRow_setCell_below ?_ (by first | (simp; done) | (simp; omega)) _)
    exact HO5.out
  · refine own_mono (base' := w1.heap.size) ?_ (by omega)
    repeat (with_reducible refine own_setNe ?_ _ _ _ (fun q hq => by have := HNI.out q hq; omega))
    exact HOC5.out.2.1
  · refine own_mono (base' := w1.heap.size) ?_ (by omega)
    repeat (with_reducible refine own_setNe ?_ _ _ _ (fun q hq => by have := HNO.out q hq; omega))
    exact HOC5.out.2.2
  · exact bl_set (bl_set (bl_set (bl_set (bl_set (bl_set HB5.out hg5w _) hgl _) hgl _) hgl _) hgl _) hgl _
end Go.Proofs.YtmeefmoblkiebaaGreat
/- Contracts: copies of machines (the program). -/
namespace Go.Proofs.YtmeefmoblkiebaaGreat
open Go.RowKit
set_option linter.unusedVariables false
set_option linter.unusedSimpArgs false
set_option maxHeartbeats 400000
set_option maxRecDepth 100000
theorem clonePo_any {B : Nat} (a : Option Addr) (cap : Nat) (ps : List Po) (w : World) (hps : SlAt B w a (flat Po.cells ps)) (hB : B ≤ w.heap.size) (hn : ps.length ≤ 10000000) :
    Calls Tryz.prog 132 #[.slice a ps.length cap] w fun e w' => ∃ v, e = .returned v ∧ w'.ownsRow w.heap.size 127 3 v ps.length (flat Po.cells ps) ∧ Below w.heap.size w w' := by
  obtain ⟨i0, hi, hz0, hz1, hz2⟩ := info_parts Tryz.infoPortU
  have heq := fun (w : World) => Lib.run_eql_slice_nil (P := Tryz.prog) w 52 127 a ps.length cap 0 0 Tryz.underlying52
  cases a with
  | none =>
    have hp : ps = [] := by
      cases ps with
      | nil => rfl
      | cons p ps => obtain ⟨b, off, h0, -⟩ := hps 0 (by simp [flat, Po.cells]); cases h0
    have Hp := Lib.hid hp
    clear hi hz0 hz1 hz2 hp
    go_enter Tryz.func132, Tryz.ntmps132
    go_wp2
    go_ret
    exact ⟨_, rfl, by rw [Hp.out]; exact World.ownsRow_nil w w.heap.size 127 3, Below.refl _ _⟩
  | some ad =>
    go_enter Tryz.func132, Tryz.ntmps132
    go_wp2_with (at_builtin; refine wpList_append_sl _ rfl _ _ 52 rfl w.heap.size 127 i0 (.agg #[.int .i8 0, .int .i8 0, .int .i8 0]) 3 3 Tryz.underlying52 hi hz0 hz1 hz2 rfl (by decide) _ 0 [] rfl (World.ownsRow_made w _ 0 (Nat.le_refl _) (by simp [maxLen]) rfl) (some ad) ps.length cap (flat Po.cells ps) rfl (hps.below (bl_alloc (Below.refl _ _)) hB) (flat_length Po.len ps) (one_cells Po.one ps) (by unfold maxLen; omega) (by omega) (by simp) ?_; intro v1 w1 hown hgrow)
    go_ret
    rw [Nat.zero_add, List.nil_append] at hown
    exact ⟨_, rfl, hown, bl_grown (bl_alloc (Below.refl _ _)) hgrow (by intro k hk; have : some w.heap.size = some k := hk; cases this; exact Nat.le_refl _)⟩
theorem cloneCe_any {B : Nat} (a : Option Addr) (cap : Nat) (ps : List Ce) (w : World) (hps : SlAt B w a (flat Ce.cells ps)) (hB : B ≤ w.heap.size) (hn : ps.length ≤ 10000000) :
    Calls Tryz.prog 133 #[.slice a ps.length cap] w fun e w' => ∃ v, e = .returned v ∧ w'.ownsRow w.heap.size 47 2 v ps.length (flat Ce.cells ps) ∧ Below w.heap.size w w' := by
  obtain ⟨i0, hi, hz0, hz1, hz2⟩ := info_parts Tryz.infoCellU
  have heq := fun (w : World) => Lib.run_eql_slice_nil (P := Tryz.prog) w 53 47 a ps.length cap 0 0 Tryz.underlying53
  cases a with
  | none =>
    have hp : ps = [] := by
      cases ps with
      | nil => rfl
      | cons p ps => obtain ⟨b, off, h0, -⟩ := hps 0 (by simp [flat, Ce.cells]); cases h0
    have Hp := Lib.hid hp
    clear hi hz0 hz1 hz2 hp
    go_enter Tryz.func133, Tryz.ntmps133
    go_wp2
    go_ret
    exact ⟨_, rfl, by rw [Hp.out]; exact World.ownsRow_nil w w.heap.size 47 2, Below.refl _ _⟩
  | some ad =>
    go_enter Tryz.func133, Tryz.ntmps133
    go_wp2_with (at_builtin; refine wpList_append_sl _ rfl _ _ 53 rfl w.heap.size 47 i0 (.agg #[.int .i8 0, .int .i8 0]) 2 2 Tryz.underlying53 hi hz0 hz1 hz2 rfl (by decide) _ 0 [] rfl (World.ownsRow_made w _ 0 (Nat.le_refl _) (by simp [maxLen]) rfl) (some ad) ps.length cap (flat Ce.cells ps) rfl (hps.below (bl_alloc (Below.refl _ _)) hB) (flat_length Ce.len ps) (one_cells Ce.one ps) (by unfold maxLen; omega) (by omega) (by simp) ?_; intro v1 w1 hown hgrow)
    go_ret
    rw [Nat.zero_add, List.nil_append] at hown
    exact ⟨_, rfl, hown, bl_grown (bl_alloc (Below.refl _ _)) hgrow (by intro k hk; have : some w.heap.size = some k := hk; cases this; exact Nat.le_refl _)⟩
set_option maxHeartbeats 1600000 in
theorem cloneMachine_any (m : Mc) (v : Value) (w : World) (h : MV w v m) (hn : m.bd.ps.length ≤ 10000) (hn1 : m.ins.length ≤ 10000) (hn2 : m.outs.length ≤ 10000) :
    Calls Tryz.prog 83 #[v] w fun e w' => ∃ s si so, e = .returned (mcv m.bd.wd m.bd.hg s si so) ∧ OwnM w' w.heap.size s si so m ∧ Below w.heap.size w w' := by
  obtain ⟨s, si, so, rfl, ⟨pa, pcap, rfl, hps⟩, ⟨ia, icap, rfl, hins⟩, ⟨oa, ocap, rfl, houts⟩⟩ := h
  have HM := Lib.hid (MP.new (m := m) (w := w) ⟨pa, pcap, rfl, hps⟩ ⟨ia, icap, rfl, hins⟩ ⟨oa, ocap, rfl, houts⟩ 55)
  have HXB := Lib.hid (BX5.new w (.int .i8 m.bd.wd) (.int .i8 m.bd.hg) (.slice pa m.bd.ps.length pcap) (.slice ia m.ins.length icap) (.slice oa m.outs.length ocap) 55)
  have hbA : Below w.heap.size w (w.alloc (.cells #[.int .i8 m.bd.wd, .int .i8 m.bd.hg, .slice pa m.bd.ps.length pcap, .slice ia m.ins.length icap, .slice oa m.outs.length ocap] 55)) := bl_alloc (Below.refl _ _)
  obtain ⟨w1, hw1⟩ : ∃ w1, w1 = w.alloc (.cells #[.int .i8 m.bd.wd, .int .i8 m.bd.hg, .slice pa m.bd.ps.length pcap, .slice ia m.ins.length icap, .slice oa m.outs.length ocap] 55) := ⟨_, rfl⟩
  have hz1 : w1.heap.size = w.heap.size + 1 := by rw [hw1]; simp
  rw [← hw1] at HM HXB hbA
  have HW1 := Lib.hid hw1
  have HBF := Lib.hid (BF5new w1 (.int .i8 0) (.int .i8 0) (.slice none 0 0) (.slice none 0 0) (.slice none 0 0) 55)
  obtain ⟨b1, hb1⟩ : ∃ b1, b1 = w.heap.size := ⟨_, rfl⟩
  rw [← hb1] at HM HXB
  have HB1 := Lib.hid hb1
  have hb1l : b1 < w1.heap.size := by omega
  have hb1z : b1 + 1 = w1.heap.size := by omega
  have HB1Z := Lib.hid hb1z
  have HCP := Lib.hid (fun w2 (hb : Below w1.heap.size w1 w2) => clonePc_any (B := w.heap.size) pa pcap m.bd.ps w2 (hps.below (bl_trans hbA hb) (Nat.le_refl _)) (bl_trans hbA hb).size (by omega))
  have HCI := Lib.hid (fun w2 (hb : Below w1.heap.size w1 w2) => clonePo_any (B := w.heap.size) ia icap m.ins w2 (hins.below (bl_trans hbA hb) (Nat.le_refl _)) (bl_trans hbA hb).size (by omega))
  have HCO := Lib.hid (fun w2 (hb : Below w1.heap.size w1 w2) => cloneCe_any (B := w.heap.size) oa ocap m.outs w2 (houts.below (bl_trans hbA hb) (Nat.le_refl _)) (bl_trans hbA hb).size (by omega))
  have HWI := Lib.hid (fun w2 (hb : Below w1.heap.size w1 w2) a n cap => with_any b1 m.bd a n cap w2 (HM.out.step hb).bp)
  have HBA := Lib.hid hbA
  clear hw1 hb1 hb1z hbA hps hins houts
  go_enter Tryz.func83, Tryz.ntmps83
  go_wp2_with fail
  rw [← HW1.out]
  rw [← HB1.out]
  obtain ⟨w2, hw2, hz2, hb2, x0, x1, x2, x3, x4, f0, f1, f2, f3, f4⟩ := HBF.out
  rw [← hw2]
  obtain ⟨g, hg⟩ : ∃ g, g = w1.heap.size := ⟨_, rfl⟩
  rw [← hg] at x0 x1 x2 x3 x4 f0 f1 f2 f3 f4
  have hg2 : b1 + 1 = g := by rw [hg]; exact HB1Z.out
  rw [hg2]
  have hgl2 : g < w2.heap.size := by omega
  have hgl : w1.heap.size ≤ g := by omega
  obtain ⟨-, y0, y1, y2, y3, y4⟩ := HXB.out
  clear hw2 hg hz2 hz1 hg2
  go_region_held3 (fun w' => Below w1.heap.size w1 w' ∧ ∀ b o, b < w1.heap.size → w'.cell? ⟨b, o, none⟩ = w1.cell? ⟨b, o, none⟩) ((refine ext_s ?_; exact (by repeat (first | with_reducible exact Below.refl _ _ | with_reducible assumption | with_reducible apply bl_drewN | with_reducible apply bl_drew | with_reducible apply bl_alloc | (with_reducible refine bl_set ?_ (by first | (simp; done) | (simp; omega)) _) | with_reducible refine bl_trans ?_ (by with_reducible assumption))))) (first | (go_at_call 131; refine (HCP.out _ ?_).mono ?_; (exact (by repeat (first | with_reducible exact Below.refl _ _ | with_reducible assumption | with_reducible apply bl_drewN | with_reducible apply bl_drew | with_reducible apply bl_alloc | (with_reducible refine bl_set ?_ (by first | (simp; done) | (simp; omega)) _) | with_reducible refine bl_trans ?_ (by with_reducible assumption)))); rintro e wa ⟨va, rfl, Oa, ba⟩; obtain ⟨aa, capa, rfl, -⟩ := own_at Oa; have bA : Below w2.heap.size w2 wa := (by repeat (first | with_reducible exact Below.refl _ _ | with_reducible assumption | with_reducible apply bl_drewN | with_reducible apply bl_drew | with_reducible apply bl_alloc | (with_reducible refine bl_set ?_ (by first | (simp; done) | (simp; omega)) _) | with_reducible refine bl_trans ?_ (by with_reducible assumption))); obtain ⟨hca, hfa⟩ := bcell bA; have hzA := bA.size; clear bA) | (go_at_call 130; refine (HWI.out _ ?_ _ _ _).mono ?_; (exact (by repeat (first | with_reducible exact Below.refl _ _ | with_reducible assumption | with_reducible apply bl_drewN | with_reducible apply bl_drew | with_reducible apply bl_alloc | (with_reducible refine bl_set ?_ (by first | (simp; done) | (simp; omega)) _) | with_reducible refine bl_trans ?_ (by with_reducible assumption)))); rintro e wv ⟨rfl, bv⟩; have bV : Below w2.heap.size w2 wv := (by repeat (first | with_reducible exact Below.refl _ _ | with_reducible assumption | with_reducible apply bl_drewN | with_reducible apply bl_drew | with_reducible apply bl_alloc | (with_reducible refine bl_set ?_ (by first | (simp; done) | (simp; omega)) _) | with_reducible refine bl_trans ?_ (by with_reducible assumption))); obtain ⟨hcv, hfv⟩ := bcell bV; have hzV := bv.size; clear bV) | (go_at_call 132; refine (HCI.out _ ?_).mono ?_; (exact (by repeat (first | with_reducible exact Below.refl _ _ | with_reducible assumption | with_reducible apply bl_drewN | with_reducible apply bl_drew | with_reducible apply bl_alloc | (with_reducible refine bl_set ?_ (by first | (simp; done) | (simp; omega)) _) | with_reducible refine bl_trans ?_ (by with_reducible assumption)))); rintro e wi ⟨vi, rfl, Oi, bi⟩; obtain ⟨ai, capi, rfl, -⟩ := own_at Oi; have bI : Below w2.heap.size w2 wi := (by repeat (first | with_reducible exact Below.refl _ _ | with_reducible assumption | with_reducible apply bl_drewN | with_reducible apply bl_drew | with_reducible apply bl_alloc | (with_reducible refine bl_set ?_ (by first | (simp; done) | (simp; omega)) _) | with_reducible refine bl_trans ?_ (by with_reducible assumption))); obtain ⟨hci, hfi⟩ := bcell bI; have hzI := bi.size; clear bI) | (go_at_call 133; refine (HCO.out _ ?_).mono ?_; (exact (by repeat (first | with_reducible exact Below.refl _ _ | with_reducible assumption | with_reducible apply bl_drewN | with_reducible apply bl_drew | with_reducible apply bl_alloc | (with_reducible refine bl_set ?_ (by first | (simp; done) | (simp; omega)) _) | with_reducible refine bl_trans ?_ (by with_reducible assumption)))); rintro e wo ⟨vo, rfl, Oo, bo⟩; obtain ⟨ao, capo, rfl, -⟩ := own_at Oo; have bO : Below w2.heap.size w2 wo := (by repeat (first | with_reducible exact Below.refl _ _ | with_reducible assumption | with_reducible apply bl_drewN | with_reducible apply bl_drew | with_reducible apply bl_alloc | (with_reducible refine bl_set ?_ (by first | (simp; done) | (simp; omega)) _) | with_reducible refine bl_trans ?_ (by with_reducible assumption))); obtain ⟨hco, hfo⟩ := bcell bO; clear bO))
  have HN := Lib.hid (And.intro (show Apart (.slice aa m.bd.ps.length capa) (.slice ai m.ins.length capi) from ⟨own_apart Oa Oi (by omega), own_apart' Oa Oi (by omega)⟩) (And.intro (show Apart (.slice aa m.bd.ps.length capa) (.slice ao m.outs.length capo) from ⟨own_apart Oa Oo (by omega), own_apart' Oa Oo (by omega)⟩) (show Apart (.slice ai m.ins.length capi) (.slice ao m.outs.length capo) from ⟨own_apart Oi Oo (by omega), own_apart' Oi Oo (by omega)⟩)))
  have e0 : wo.cell? ⟨g, 0, none⟩ = some (.int .i8 0) := by rw [hco _ _ hgl2]; exact x0
  have e1 : wo.cell? ⟨g, 1, none⟩ = some (.int .i8 0) := by rw [hco _ _ hgl2]; exact x1
  have e2 : wo.cell? ⟨g, 2, none⟩ = some (.slice none 0 0) := by rw [hco _ _ hgl2]; exact x2
  have e3 : wo.cell? ⟨g, 3, none⟩ = some (.slice none 0 0) := by rw [hco _ _ hgl2]; exact x3
  have e4 : wo.cell? ⟨g, 4, none⟩ = some (.slice none 0 0) := by rw [hco _ _ hgl2]; exact x4
  have hwz : w.heap.size ≤ w1.heap.size := HBA.out.size
  have hgw : w.heap.size ≤ g := by omega
  have HBO : Below w2.heap.size w2 wo := (by repeat (first | with_reducible exact Below.refl _ _ | with_reducible assumption | with_reducible apply bl_drewN | with_reducible apply bl_drew | with_reducible apply bl_alloc | (with_reducible refine bl_set ?_ (by first | (simp; done) | (simp; omega)) _) | with_reducible refine bl_trans ?_ (by with_reducible assumption)))
  have OA := own_mono (base := w2.heap.size) (own_below (own_below (own_below Oa bv (Nat.le_refl _)) bi (Nat.le_refl _)) bo (Nat.le_refl _)) (by first | exact Nat.le_refl _ | omega | (simp; done) | (simp; omega))
  have OI := own_mono (base := w2.heap.size) (own_below Oi bo (Nat.le_refl _)) (by omega)
  have OO := own_mono (base := w2.heap.size) Oo (by omega)
  clear hca hfa hcv hfv hci hfi hco hfo
  go_wp2
  refine bodyPost_ret (v := mcv m.bd.wd m.bd.hg (.slice aa m.bd.ps.length capa) (.slice ai m.ins.length capi) (.slice ao m.outs.length capo)) (by simp [results, Tryz.results83, go_sem, e0, e1, e2, e3, e4]) rfl ⟨_, _, _, rfl, ⟨?_, ?_, ?_, HN.out⟩, ?_⟩
  · refine own_mono (base' := w2.heap.size) ?_ (by omega)
    repeat (with_reducible refine ownsRow_setCell_below ?_ (by first | (simp; done) | (simp; omega)) _)
    exact OA
  · refine own_mono (base' := w2.heap.size) ?_ (by omega)
    repeat (with_reducible refine ownsRow_setCell_below ?_ (by first | (simp; done) | (simp; omega)) _)
    exact OI
  · refine own_mono (base' := w2.heap.size) ?_ (by omega)
    repeat (with_reducible refine ownsRow_setCell_below ?_ (by first | (simp; done) | (simp; omega)) _)
    exact OO
  · exact bl_set (bl_set (bl_set (bl_set (bl_set (bl_trans HBA.out (bl_trans hb2 HBO)) hgw _) hgw _) hgw _) hgw _) hgw _
end Go.Proofs.YtmeefmoblkiebaaGreat
/- Contracts: a machine that is drawn. -/
namespace Go.Proofs.YtmeefmoblkiebaaGreat
open Go.RowKit
set_option linter.unusedVariables false
set_option linter.unusedSimpArgs false
set_option maxHeartbeats 400000
set_option maxRecDepth 100000
theorem infoPoD : (Tryz.prog.info? 127).map (fun i => (i.zero, i.size, i.bytes)) = some (some (.agg #[.int .i8 0, .int .i8 0, .int .i8 0]), 3, 3) := by kernel_rfl
theorem infoCeD : (Tryz.prog.info? 47).map (fun i => (i.zero, i.size, i.bytes)) = some (some (.agg #[.int .i8 0, .int .i8 0]), 2, 2) := by kernel_rfl
theorem run_neq_po (f g : Po) (w : World) : (binOp .neq 127 f.val g.val).run Tryz.prog w = .ok (.bool (decide (f ≠ g))) w := by
  have := run_equal_po f g w
  simp only [binOp]
  simp [this]
theorem among3_any (p b : Nat) (code : List Int) (k cap : Nat) (x0 x1 x2 : Int) (w : World) (hs : SrcAt w p code k) (hc : BytesOk code) (hk : k ≤ 900000) (hp : p < b) (hb : w.heap[b]? = some (.cells #[.int .i64 x0, .int .i64 x1, .int .i64 x2] 2 (0, 0))) :
    Calls Tryz.prog 117 #[.pointer (some ⟨p, 0, none⟩), .slice (some ⟨b, 0, none⟩) 3 cap] w fun e w' => ∃ v : Int, e = .returned (.int .i64 v) ∧ (v = x0 ∨ v = x1 ∨ v = x2) ∧ SrcAt w' p code (k + 2) ∧ w.grownBy w' (some p) := by
  go_enter Tryz.func117, Tryz.ntmps117
  go_wp2_with fail
  refine (pick_any p code k w 3 hs hc hk (by omega)).mono ?_
  rintro e w1 ⟨x, rfl, y0, y1, hs1, hg1⟩
  have hb1 := blk_kept hb hg1 (by simp; omega)
  obtain ⟨c0, c1, c2, cf⟩ := three_cells hb1
  rcases (show x = 0 ∨ x = 1 ∨ x = 2 by omega) with rfl | rfl | rfl
  · go_wp2
    go_ret
    exact ⟨_, rfl, .inl rfl, hs1, hg1⟩
  · go_wp2
    go_ret
    exact ⟨_, rfl, .inr (.inl rfl), hs1, hg1⟩
  · go_wp2
    go_ret
    exact ⟨_, rfl, .inr (.inr rfl), hs1, hg1⟩
theorem five_blk {w : World} {b : Nat} {v0 v1 v2 v3 v4 : Value} {T : TypeId} (h : w.heap[b]? = some (.cells #[v0, v1, v2, v3, v4] T (0, 0))) (u : Value) :
    (w.setCell ⟨b, 2, none⟩ u).heap[b]? = some (.cells #[v0, v1, u, v3, v4] T (0, 0)) ∧ (w.setCell ⟨b, 3, none⟩ u).heap[b]? = some (.cells #[v0, v1, v2, u, v4] T (0, 0)) ∧ (w.setCell ⟨b, 4, none⟩ u).heap[b]? = some (.cells #[v0, v1, v2, v3, u] T (0, 0)) := ⟨set_block h 2 u, set_block h 3 u, set_block h 4 u⟩
/-- The machine while it is drawn. -/
structure MrS (w wr : World) (p b wd hg : Nat) (code : List Int) (k : Nat) (vP : Value) (ps : List Pc) (vI : Value) (is : List Po) (vO : Value) (os : List Ce) : Prop where
  blk : wr.heap[b]? = some (.cells #[.int .i8 wd, .int .i8 hg, vP, vI, vO] 55 (0, 0))
  own : OwnM wr (b + 1) vP vI vO ⟨⟨wd, hg, ps⟩, is, os⟩
  src : SrcAt wr p code k
  grown : w.grownBy wr (some p)
section
variable {w wr w' : World} {p b wd hg : Nat} {code : List Int} {k k' : Nat} {vP : Value} {ps : List Pc} {vI : Value} {is : List Po} {vO : Value} {os : List Ce}
theorem MrS.le (h : MrS w wr p b wd hg code k vP ps vI is vO os) (hk : k ≤ k') : MrS w wr p b wd hg code k' vP ps vI is vO os := ⟨h.blk, h.own, h.src.le hk, h.grown⟩
theorem OwnM.kept {w w' : World} {base : Nat} {s si so : Value} {m : Mc} {row : Option Nat} (h : OwnM w base s si so m) (hg : w.grownBy w' row) (hr : ∀ g, row = some g → g < base ∨ w.heap.size ≤ g ∨ (s.ownBlock ≠ some g ∧ si.ownBlock ≠ some g ∧ so.ownBlock ≠ some g)) : OwnM w' base s si so m := by
  obtain ⟨h1, h2, h3, h4⟩ := h
  refine ⟨own_kept h1 hg ?_, own_kept h2 hg ?_, own_kept h3 hg ?_, h4⟩
  · intro q hq e
    have := h1.lt q hq
    rcases hr q e.symm with h | h | h
    · omega
    · omega
    · exact h.1 hq
  · intro q hq e
    have := h2.lt q hq
    rcases hr q e.symm with h | h | h
    · omega
    · omega
    · exact h.2.1 hq
  · intro q hq e
    have := h3.lt q hq
    rcases hr q e.symm with h | h | h
    · omega
    · omega
    · exact h.2.2 hq
theorem MrS.draw (h : MrS w wr p b wd hg code k vP ps vI is vO os) (hs : SrcAt w' p code k') (hg' : wr.grownBy w' (some p)) (hp : p < b) : MrS w w' p b wd hg code k' vP ps vI is vO os :=
  ⟨blk_kept h.blk hg' (fun e => by simp at e; omega), h.own.kept hg' (fun g e => by cases e; exact .inl (by omega)), hs, grown_trans h.grown hg'⟩
theorem MrS.alloc (h : MrS w wr p b wd hg code k vP ps vI is vO os) (hp : p < b) (o : Obj) : MrS w (wr.alloc o) p b wd hg code k vP ps vI is vO os :=
  h.draw h.src.alloc (World.grownBy_alloc wr o (some p)) hp
theorem MrS.own_lt (h : MrS w wr p b wd hg code k vP ps vI is vO os) : (∀ g, vP.ownBlock = some g → g < wr.heap.size) ∧ (∀ g, vI.ownBlock = some g → g < wr.heap.size) ∧ (∀ g, vO.ownBlock = some g → g < wr.heap.size) :=
  ⟨fun g hg => (h.own.1.lt g hg).2, fun g hg => (h.own.2.1.lt g hg).2, fun g hg => (h.own.2.2.1.lt g hg).2⟩
/-- A block of the call's own that is none of the rows. -/
def NewB (b q : Nat) (vP vI vO : Value) : Prop := b < q ∧ vP.ownBlock ≠ some q ∧ vI.ownBlock ≠ some q ∧ vO.ownBlock ≠ some q
theorem MrS.newb (h : MrS w wr p b wd hg code k vP ps vI is vO os) {q : Nat} (hq : wr.heap.size ≤ q) : NewB b q vP vI vO := by
  obtain ⟨h1, h2, h3⟩ := h.own_lt
  have hb := lt_of_block h.blk
  exact ⟨by omega, fun e => by have := h1 q e; omega, fun e => by have := h2 q e; omega, fun e => by have := h3 q e; omega⟩
theorem MrS.set {q o : Nat} (h : MrS w wr p b wd hg code k vP ps vI is vO os) (hp : p < b) (hw : w.heap.size ≤ q) (hq : NewB b q vP vI vO) (u : Value) : MrS w (wr.setCell ⟨q, o, none⟩ u) p b wd hg code k vP ps vI is vO os :=
  ⟨blk_kept h.blk (grown_set1 wr q o u) (fun e => by have := hq.1; simp at e; omega), h.own.kept (grown_set1 wr q o u) (fun g e => by cases e; exact .inr (.inr hq.2)), h.src.setNew (by have := hq.1; omega) u, grown_setNew h.grown hw u⟩
theorem src_grow {wr w6 : World} {p b k : Nat} {code : List Int} {o : Obj} {row : Option Nat} (hs : SrcAt wr p code k) (hp : p < b) (hgrow : (wr.alloc o).grownBy w6 row) (hv : ∀ q, row = some q → b + 1 ≤ q) : SrcAt w6 p code k :=
  hs.alloc.grown hgrow (fun g e => by have := hv g e; omega)
theorem grow_grow {w wr w6 : World} {p b : Nat} {o : Obj} {row : Option Nat} (h : w.grownBy wr (some p)) (hw : w.heap.size ≤ b) (hgrow : (wr.alloc o).grownBy w6 row) (hv : ∀ q, row = some q → b + 1 ≤ q) : w.grownBy w6 (some p) := by
  have h1 := grownS_alloc h o
  cases row with
  | none => exact grown_trans h1 ⟨hgrow.os, hgrow.tape, hgrow.output, hgrow.size, fun i hi _ => hgrow.block i hi (by simp)⟩
  | some q => exact grown_new h1 hgrow (by have := hv q rfl; omega)
theorem apart_new {v v1 v' : Value} {g H : Nat} (ha : Apart v v') (h1 : v1.ownBlock = some g) (hg : v.ownBlock = some g ∨ g = H) (hl : ∀ q, v'.ownBlock = some q → q < H) : Apart v1 v' := by
  have key : v'.ownBlock ≠ some g := by
    intro e
    rcases hg with h | h
    · exact ha.1 g h e.symm
    · have := hl g e; omega
  refine ⟨fun q hq e => ?_, fun q hq e => ?_⟩
  · rw [h1] at hq; cases hq; exact key e.symm
  · rw [h1] at e; cases e; exact key hq
theorem apart_symm {v v' : Value} (h : Apart v v') : Apart v' v := ⟨h.2, h.1⟩
theorem own_two {w w6 : World} {base : Nat} {e : TypeId} {size n : Nat} {v v1 : Value} {xs : List Value} (h : w.ownsRow base e size v1 n xs) (ha : Apart v v1) (hgrow : w.grownBy w6 v.ownBlock) : w6.ownsRow base e size v1 n xs :=
  own_kept h hgrow (fun q hq => ha.2 q hq)
theorem MrS.pushP {w6 : World} {o : Obj} {g c : Nat} {P : Pc} (h : MrS w wr p b wd hg code k vP ps vI is vO os) (hp : p < b) (hw : w.heap.size ≤ b) (hgrow : (wr.alloc o).grownBy w6 vP.ownBlock) (hg6 : vP.ownBlock = some g ∨ g = (wr.alloc o).heap.size)
    (hown : w6.ownsRow (b + 1) 49 5 (.slice (some ⟨g, 0, none⟩) (ps.length + 1) c) (ps.length + 1) (flat Pc.cells ps ++ P.cells)) :
    MrS w (w6.setCell ⟨b, 2, none⟩ (.slice (some ⟨g, 0, none⟩) (ps.length + 1) c)) p b wd hg code k (.slice (some ⟨g, 0, none⟩) (ps.length + 1) c) (ps ++ [P]) vI is vO os := by
  have hv : ∀ q, vP.ownBlock = some q → b + 1 ≤ q := fun q hq => (h.own.1.lt q hq).1
  have h1 := h.alloc hp o
  obtain ⟨l1, l2, l3⟩ := h1.own_lt
  have hb6 := blk_kept h1.blk hgrow (fun e => by have := hv b e; omega)
  have e : flat Pc.cells ps ++ P.cells = flat Pc.cells (ps ++ [P]) := by rw [flat_append]; simp [flat]
  rw [e] at hown
  have hgb : b + 1 ≤ g := (hown.lt g rfl).1
  obtain ⟨o1, o2, o3, a1, a2, a3⟩ := h1.own
  have hO : OwnM w6 (b + 1) (.slice (some ⟨g, 0, none⟩) (ps.length + 1) c) vI vO ⟨⟨wd, hg, ps ++ [P]⟩, is, os⟩ :=
    ⟨by show w6.ownsRow _ _ _ _ (ps ++ [P]).length _; rw [List.length_append]; exact hown, own_two o2 a1 hgrow, own_two o3 a2 hgrow, apart_new a1 rfl hg6 l2, apart_new a2 rfl hg6 l3, a3⟩
  exact ⟨(five_blk hb6 _).1, hO.kept (grown_set1 w6 b 2 _) (fun q e => by cases e; exact .inl (by omega)), (src_grow h.src hp hgrow hv).setNew hp _, grown_setNew (grow_grow h.grown hw hgrow hv) hw _⟩
theorem MrS.pushI {w6 : World} {o : Obj} {g c : Nat} {P : Po} (h : MrS w wr p b wd hg code k vP ps vI is vO os) (hp : p < b) (hw : w.heap.size ≤ b) (hgrow : (wr.alloc o).grownBy w6 vI.ownBlock) (hg6 : vI.ownBlock = some g ∨ g = (wr.alloc o).heap.size)
    (hown : w6.ownsRow (b + 1) 127 3 (.slice (some ⟨g, 0, none⟩) (is.length + 1) c) (is.length + 1) (flat Po.cells is ++ P.cells)) :
    MrS w (w6.setCell ⟨b, 3, none⟩ (.slice (some ⟨g, 0, none⟩) (is.length + 1) c)) p b wd hg code k vP ps (.slice (some ⟨g, 0, none⟩) (is.length + 1) c) (is ++ [P]) vO os := by
  have hv : ∀ q, vI.ownBlock = some q → b + 1 ≤ q := fun q hq => (h.own.2.1.lt q hq).1
  have h1 := h.alloc hp o
  obtain ⟨l1, l2, l3⟩ := h1.own_lt
  have hb6 := blk_kept h1.blk hgrow (fun e => by have := hv b e; omega)
  have e : flat Po.cells is ++ P.cells = flat Po.cells (is ++ [P]) := by rw [flat_append]; simp [flat]
  rw [e] at hown
  have hgb : b + 1 ≤ g := (hown.lt g rfl).1
  obtain ⟨o1, o2, o3, a1, a2, a3⟩ := h1.own
  have hO : OwnM w6 (b + 1) vP (.slice (some ⟨g, 0, none⟩) (is.length + 1) c) vO ⟨⟨wd, hg, ps⟩, is ++ [P], os⟩ :=
    ⟨own_two o1 (apart_symm a1) hgrow, by show w6.ownsRow _ _ _ _ (is ++ [P]).length _; rw [List.length_append]; exact hown, own_two o3 a3 hgrow, apart_symm (apart_new (apart_symm a1) rfl hg6 l1), a2, apart_new a3 rfl hg6 l3⟩
  exact ⟨(five_blk hb6 _).2.1, hO.kept (grown_set1 w6 b 3 _) (fun q e => by cases e; exact .inl (by omega)), (src_grow h.src hp hgrow hv).setNew hp _, grown_setNew (grow_grow h.grown hw hgrow hv) hw _⟩
theorem MrS.pushO {w6 : World} {o : Obj} {g c : Nat} {P : Ce} (h : MrS w wr p b wd hg code k vP ps vI is vO os) (hp : p < b) (hw : w.heap.size ≤ b) (hgrow : (wr.alloc o).grownBy w6 vO.ownBlock) (hg6 : vO.ownBlock = some g ∨ g = (wr.alloc o).heap.size)
    (hown : w6.ownsRow (b + 1) 47 2 (.slice (some ⟨g, 0, none⟩) (os.length + 1) c) (os.length + 1) (flat Ce.cells os ++ P.cells)) :
    MrS w (w6.setCell ⟨b, 4, none⟩ (.slice (some ⟨g, 0, none⟩) (os.length + 1) c)) p b wd hg code k vP ps vI is (.slice (some ⟨g, 0, none⟩) (os.length + 1) c) (os ++ [P]) := by
  have hv : ∀ q, vO.ownBlock = some q → b + 1 ≤ q := fun q hq => (h.own.2.2.1.lt q hq).1
  have h1 := h.alloc hp o
  obtain ⟨l1, l2, l3⟩ := h1.own_lt
  have hb6 := blk_kept h1.blk hgrow (fun e => by have := hv b e; omega)
  have e : flat Ce.cells os ++ P.cells = flat Ce.cells (os ++ [P]) := by rw [flat_append]; simp [flat]
  rw [e] at hown
  have hgb : b + 1 ≤ g := (hown.lt g rfl).1
  obtain ⟨o1, o2, o3, a1, a2, a3⟩ := h1.own
  have hO : OwnM w6 (b + 1) vP vI (.slice (some ⟨g, 0, none⟩) (os.length + 1) c) ⟨⟨wd, hg, ps⟩, is, os ++ [P]⟩ :=
    ⟨own_two o1 (apart_symm a2) hgrow, own_two o2 (apart_symm a3) hgrow, by show w6.ownsRow _ _ _ _ (os ++ [P]).length _; rw [List.length_append]; exact hown, a1, apart_symm (apart_new (apart_symm a2) rfl hg6 l1), apart_symm (apart_new (apart_symm a3) rfl hg6 l2)⟩
  exact ⟨(five_blk hb6 _).2.2, hO.kept (grown_set1 w6 b 4 _) (fun q e => by cases e; exact .inl (by omega)), (src_grow h.src hp hgrow hv).setNew hp _, grown_setNew (grow_grow h.grown hw hgrow hv) hw _⟩
end
theorem own_posD {w : World} {base : Nat} {e : TypeId} {size n : Nat} {v : Value} {xs : List Value} (h : w.ownsRow base e size v n xs) (hn : 0 < n) : ∃ g cap, v = .slice (some ⟨g, 0, none⟩) n cap ∧ base ≤ g := by
  rcases h.2 with ⟨-, h0⟩ | ⟨g, cap3, cur, hve, hg, -⟩
  · omega
  · exact ⟨g, cap3, hve, hg⟩
theorem ext_m {w w' : World} {p b rb : Nat} {v : Value} (h : w.grownBy w' (some p)) (c : w.cell? ⟨b, 2, none⟩ = some v) (hb : b < w.heap.size) (hp : b ≠ p) (hr : rb < w.heap.size) (hrp : rb ≠ p) : w.grownBy w' (some p) ∧ w'.cell? ⟨b, 2, none⟩ = some v ∧ ∀ o, w'.cell? ⟨rb, o, none⟩ = w.cell? ⟨rb, o, none⟩ := by
  refine ⟨h, ?_, fun o => World.cell?_of_block (a := ⟨rb, o, none⟩) (h.block rb hr (fun e => hrp (by simpa using e)))⟩
  rw [World.cell?_of_block (a := ⟨b, 2, none⟩) (h.block b hb (fun e => hp (by simpa using e)))]
  exact c
theorem three_set3 {w : World} {b : Nat} {v0 v1 v2 : Value} {T : TypeId} (h : w.heap[b]? = some (.cells #[v0, v1, v2] T (0, 0))) (u0 u1 u2 : Value) :
    (((w.setCell ⟨b, 0, none⟩ u0).setCell ⟨b, 1, none⟩ u1).setCell ⟨b, 2, none⟩ u2).heap[b]? = some (.cells #[u0, u1, u2] T (0, 0)) := set_block (set_block (set_block h 0 u0) 1 u1) 2 u2
theorem fin_port {W wx : World} {p k q j : Nat} {code : List Int} {ps : List Pc} {T : TypeId} (hj : j < ps.length) (h : wx.heap[q]? = some (.cells #[.int .i8 ps[j].x, .int .i8 ps[j].y, .int .i8 0] T (0, 0))) (hb : W.heap.size ≤ q) (hs : SrcAt wx p code k) (hg : W.grownBy wx (some p)) :
    ∃ (q' j : Nat) (hj : j < ps.length), Value.pointer (some ⟨q, 0, none⟩) = .pointer (some ⟨q', 0, none⟩) ∧ W.heap.size ≤ q' ∧ wx.heap[q']? = some (.cells #[.int .i8 ps[j].x, .int .i8 ps[j].y, .int .i8 0] T (0, 0)) ∧ SrcAt wx p code k ∧ W.grownBy wx (some p) :=
  ⟨q, j, hj, rfl, hb, h, hs, hg⟩
theorem sl_newsD (w : World) (cs : Array Value) (T : TypeId) (g : Nat) (hg : g = w.heap.size) : ∀ j u, cs.toList[j]? = some u → (w.alloc (.cells cs T)).cell? ((⟨g, 0, none⟩ : Addr).add j) = some u := by
  subst hg
  exact World.news_of_block (heap_alloc_new w (.cells cs T))
/-- The boxes' cells behind an append. -/
theorem MrS.after {w wr w6 : World} {p b wd hg : Nat} {code : List Int} {k : Nat} {vP : Value} {ps : List Pc} {vI : Value} {is : List Po} {vO : Value} {os : List Ce} {o : Obj} {row : Option Nat} (h : MrS w wr p b wd hg code k vP ps vI is vO os) (hp : p < b) (hgrow : (wr.alloc o).grownBy w6 row) (hv : ∀ q, row = some q → b + 1 ≤ q) :
    w6.heap[b]? = some (.cells #[.int .i8 wd, .int .i8 hg, vP, vI, vO] 55 (0, 0)) := blk_kept (h.alloc hp o).blk hgrow (fun e => by have := hv b e; omega)
set_option maxHeartbeats 8000000 in
set_option maxRecDepth 100000 in
theorem l03Drawn_any (p : Nat) (code : List Int) (k : Nat) (w : World) (hs : SrcAt w p code k) (hc : BytesOk code) (hk : k ≤ 700000) :
    Calls Tryz.prog 66 #[.pointer (some ⟨p, 0, none⟩)] w fun e w' => ∃ (wd hg : Int) (vP vI vO : Value), e = .returned (mcv wd hg vP vI vO) ∧ ∃ (ps : List Pc) (is : List Po) (os : List Ce), vMc ⟨⟨wd, hg, ps⟩, is, os⟩ = true ∧ (Mc.mk ⟨wd, hg, ps⟩ is os).ok ∧ (is.length ≤ 3 ∧ wd ≤ 5 ∧ hg ≤ 2) ∧ OwnM w' w.heap.size vP vI vO ⟨⟨wd, hg, ps⟩, is, os⟩ ∧ SrcAt w' p code (k + 1000) ∧ w.grownBy w' (some p) := by
  have hlt := hs.lt
  obtain ⟨i0, hi, hz0, hz1, hz2⟩ := info_parts infoPcD
  obtain ⟨i1, hi1, hi10, hi11, hi12⟩ := info_parts infoPoD
  obtain ⟨i2, hi2, hi20, hi21, hi22⟩ := info_parts infoCeD
  obtain ⟨W, hW⟩ : ∃ W, W = w.alloc (.cells #[.int .i8 0, .int .i8 0, .slice none 0 0, .slice none 0 0, .slice none 0 0] 55) := ⟨_, rfl⟩
  have hWs : w.heap.size < W.heap.size := by rw [hW]; simp
  have hWg : w.grownBy W (some p) := by rw [hW]; exact grownS_alloc (grown_refl _ _) _
  have hsW : SrcAt W p code k := by rw [hW]; exact hs.alloc
  have hWq : W.heap[w.heap.size]? = some (.cells #[.int .i8 0, .int .i8 0, .slice none 0 0, .slice none 0 0, .slice none 0 0] 55 (0, 0)) := by rw [hW]; exact heap_alloc_new _ _
  have HP := Lib.hid (fun w' j (h : SrcAt w' p code j) (hj : j ≤ 900000) (n : Int) (hn : n ≤ 1000000) => pick_any p code j w' n h hc hj hn)
  have HO := Lib.hid (fun w' j (h : SrcAt w' p code j) (hj : j ≤ 900000) (n : Int) (hn : n ≤ 1000000) => one_any p code j w' n h hc hj hn)
  have HD := Lib.hid (fun w' j (h : SrcAt w' p code j) (hj : j ≤ 800000) c (hco : Ce.ok c) => l01PieceDrawn_any p code j w' c h hc hj hco)
  have HWq := Lib.hid hWq
  have HWg := Lib.hid hWg
  go_enter Tryz.func66, Tryz.ntmps66
  go_wp2_with fail
  rw [← hW]
  clear hW hWq hWg
  refine (HP.out _ _ hsW (by omega) _ (by omega)).mono ?_
  rintro e w1 ⟨x, rfl, x0, x1, hs1, hg1⟩
  obtain ⟨wd, hwd, hwd1⟩ : ∃ wd : Nat, IntKind.i64.wrap (2 + x) = (wd : Int) ∧ 2 ≤ wd ∧ wd ≤ 5 := by
    have : IntKind.i64.wrap (2 + x) = 2 + x := wrap_i64' _ (by omega) (by omega)
    exact ⟨(2 + x).toNat, by omega, by omega, by omega⟩
  have hwd8 : IntKind.i8.wrap (wd : Int) = wd := by simp [IntKind.wrap, IntKind.bits, IntKind.signed]; omega
  go_wp2_with fail
  refine (HP.out _ _ hs1 (by omega) _ (by omega)).mono ?_
  rintro e w2 ⟨y, rfl, y0, y1, hs2, hg2⟩
  obtain ⟨hg, hhg, hhg1⟩ : ∃ hg : Nat, IntKind.i64.wrap (1 + y) = (hg : Int) ∧ 1 ≤ hg ∧ hg ≤ 2 := by
    have : IntKind.i64.wrap (1 + y) = 1 + y := wrap_i64' _ (by omega) (by omega)
    exact ⟨(1 + y).toNat, by omega, by omega, by omega⟩
  have hhg8 : IntKind.i8.wrap (hg : Int) = hg := by simp [IntKind.wrap, IntKind.bits, IntKind.signed]; omega
  have hg02 := grown_trans hg1 hg2
  have hz2' := hg02.size
  obtain ⟨b, hb⟩ : ∃ b, b = w2.heap.size := ⟨_, rfl⟩
  have DS : Hid (MrS W (w2.alloc (.cells #[.int .i8 wd, .int .i8 hg, .slice none 0 0, .slice none 0 0, .slice none 0 0] 55)) p b wd hg code (k + 4) (.slice none 0 0) [] (.slice none 0 0) [] (.slice none 0 0) []) := by
    subst hb
    refine Lib.hid ⟨heap_alloc_new _ _, ⟨World.ownsRow_nil _ _ _ _, World.ownsRow_nil _ _ _ _, World.ownsRow_nil _ _ _ _, ⟨fun q e => (by cases e), fun q e => (by cases e)⟩, ⟨fun q e => (by cases e), fun q e => (by cases e)⟩, ⟨fun q e => (by cases e), fun q e => (by cases e)⟩⟩, hs2.alloc, grownS_alloc hg02 _⟩
  have hp : p < b := by have := hs2.lt; omega
  go_wp2_with fail
  rw [← hb]
  have hWb : W.heap.size ≤ b := by omega
  clear hwd hhg hwd8 hhg8 hs1 hs2 hg1 hg2 hg02 x0 x1 y0 y1 hb hz2'
  go_loopw [4] (fun i wr => ∃ (n : Nat) (v : Value) (ps : List Pc), n ≤ hg ∧ i = .int .i8 (n : Int) ∧ DrI wd hg n 0 ps ∧ (0 < n → 0 < ps.length) ∧ MrS W wr p b wd hg code (k + 4 + n * 100) v ps (.slice none 0 0) [] (.slice none 0 0) []) (fun i _ => hg - (intOf i).toNat)
  case atStart => exact ⟨0, _, [], by omega, rfl, DrI.nil _ _, by omega, DS.out⟩
  case round =>
    clear DS
    obtain ⟨n, v, ps, hn, rfl, hI, hne, hS⟩ := hrel
    obtain ⟨W1, hW1⟩ : ∃ W1, W1 = wr := ⟨_, rfl⟩
    subst hW1
    obtain ⟨c0, c1, c2, c3, c4, f0, f1, f2, f3, f4⟩ := five_cells hS.blk
    have HI := Lib.hid hI
    have HS := Lib.hid hS
    by_cases hlt1 : (n : Int) < hg
    · clear hI hS
      go_wp2_with fail
      go_loopw [5] (fun i wr => ∃ (m : Nat) (v : Value) (ps : List Pc), m ≤ wd ∧ i = .int .i8 (m : Int) ∧ DrI wd hg n m ps ∧ ((0 < n ∨ 0 < m) → 0 < ps.length) ∧ MrS W wr p b wd hg code (k + 4 + n * 100 + m * 18) v ps (.slice none 0 0) [] (.slice none 0 0) []) (fun i _ => wd - (intOf i).toNat)
      case atStart => exact ⟨0, _, _, by omega, rfl, HI.out, fun h => hne (by omega), HS.out⟩
      case round =>
        clear c0 c1 c2 c3 c4 f0 f1 f2 f3 f4 HI HS hne
        obtain ⟨m, v, ps, hm, rfl, hI, hne, hS⟩ := hrel
        obtain ⟨c0, c1, c2, c3, c4, f0, f1, f2, f3, f4⟩ := five_cells hS.blk
        have HI := Lib.hid hI
        have HS := Lib.hid hS
        have hs := hS.src
        have hn24 : ps.length ≤ 24 := by have := hI.len; omega
        obtain ⟨av, capv, hve, -⟩ := own_at hS.own.1
        subst hve
        clear hI hS
        by_cases hlt2 : (m : Int) < wd
        · go_wp2_with fail
          refine (HO.out _ _ hs (by omega) _ (by omega)).mono ?_
          rintro e w3 ⟨v1, rfl, hs3, hg3⟩
          have HS3 := Lib.hid (HS.out.draw hs3 hg3 hp)
          clear hg3 c0 c1 c2 c3 c4 f0 f1 f2 f3 f4 hs
          obtain ⟨c0, c1, c2, c3, c4, f0, f1, f2, f3, f4⟩ := five_cells HS3.out.blk
          have hcase : (v1 = true ∧ 0 < ps.length) ∨ (v1 = true ∧ ps.length = 0) ∨ v1 = false := by
            cases v1 with
            | false => exact .inr (.inr rfl)
            | true =>
              rcases Nat.eq_zero_or_pos ps.length with h | h
              · exact .inr (.inl ⟨rfl, h⟩)
              · exact .inl ⟨rfl, h⟩
          rcases hcase with ⟨rfl, hl0⟩ | ⟨rfl, hl0⟩ | rfl
          · have hl1 : decide ((ps.length : Int) > 0) = true := by simp; omega
            have hl2 : (ps.length : Int) > 0 := by omega
            go_wp2_with fail
            go_roundw
            case rel => exact ⟨m + 1, _, ps, by omega, by go_num, by rw [show ((m + 1 : Nat) : Int) = (m : Int) + 1 by omega]; exact HI.out.skip, fun _ => hl0, HS3.out.le (by omega)⟩
            case measure => simp [intOf]; omega
          all_goals
            try (have hl1 : decide ((ps.length : Int) > 0) = false := by simp; omega)
            try (have hl2 : ¬ (ps.length : Int) > 0 := by omega)
            try clear hl0
            go_wp2_with fail
            refine (HD.out _ _ hs3 (by omega) ⟨m, n⟩ ⟨⟨by show (-128 : Int) ≤ m; omega, by show (m : Int) ≤ 127; omega⟩, ⟨by show (-128 : Int) ≤ n; omega, by show (n : Int) ≤ 127; omega⟩⟩).mono ?_
            rintro e w4 ⟨⟨px, py, pk, pt, pd⟩, rfl, hPx, hPy, k0, k1, t0, t1, d0, d1, hs4, hg4⟩
            simp only at hPx hPy k0 k1 t0 t1 d0 d1
            subst hPx
            subst hPy
            have HS4 := Lib.hid (HS3.out.draw hs4 hg4 hp)
            have HQV := Lib.hid (HS4.out.newb (Nat.le_refl _))
            obtain ⟨q, hq⟩ : ∃ q, q = w4.heap.size := ⟨_, rfl⟩
            obtain ⟨w5, hw5⟩ : ∃ w5, w5 = w4.alloc (.cells #[.int .i8 m, .int .i8 n, .int .i8 pk, .int .i8 pt, .int .i8 pd] 49) := ⟨_, rfl⟩
            have HS5 := Lib.hid (HS4.out.alloc hp (.cells #[.int .i8 m, .int .i8 n, .int .i8 pk, .int .i8 pt, .int .i8 pd] 49))
            have hq5 : w5.heap[q]? = some (.cells #[.int .i8 m, .int .i8 n, .int .i8 pk, .int .i8 pt, .int .i8 pd] 49 (0, 0)) := by rw [hw5, hq]; exact heap_alloc_new _ _
            rw [← hw5] at HS5
            rw [← hq] at HQV
            have HQ5 := Lib.hid hq5
            clear hs4 hg4 hs3 HS3 HS4 hq5 c0 c1 c2 c3 c4 f0 f1 f2 f3 f4
            go_wp2_with fail
            rw [← hw5, ← hq]
            clear hw5 hq
            have hs5 := HS5.out.src
            refine (HO.out _ _ hs5 (by omega) _ (by omega)).mono ?_
            rintro e w6 ⟨v2, rfl, hs6, hg6⟩
            have HS6 := Lib.hid (HS5.out.draw hs6 hg6 hp)
            have hqb := HQV.out.1
            have hq6 := blk_kept HQ5.out hg6 (by simp; omega)
            clear hg6 hs5 HS5 HQ5
            have hWq : W.heap.size ≤ q := by omega
            cases v2 with
            | false =>
              have HS6a := Lib.hid (HS6.out.alloc hp (.cells #[.int .i64 0, .int .i64 4, .int .i64 1] 2))
              have hqa := blk_kept (row := none) hq6 (World.grownBy_alloc w6 (.cells #[.int .i64 0, .int .i64 4, .int .i64 1] 2) none) (by simp)
              have hla : (w6.alloc (.cells #[.int .i64 0, .int .i64 4, .int .i64 1] 2)).heap[w6.heap.size]? = some (.cells #[.int .i64 0, .int .i64 4, .int .i64 1] 2 (0, 0)) := heap_alloc_new _ _
              have hp6 : p < w6.heap.size := hs6.lt
              have HQA := Lib.hid hqa
              have HLA := Lib.hid hla
              clear hqa hla hq6 hs6 HS6
              go_wp2_with fail
              have hsa := HS6a.out.src
              refine (among3_any p _ code _ _ _ _ _ _ hsa hc (by omega) hp6 HLA.out).mono ?_
              rintro e w7 ⟨kk, rfl, hkk, hs7, hg7⟩
              have hkk5 : 0 ≤ kk ∧ kk ≤ 5 := by omega
              have ek : IntKind.i8.wrap kk = kk := by simp [IntKind.wrap, IntKind.bits, IntKind.signed]; omega
              have HS7 := Lib.hid (HS6a.out.draw hs7 hg7 hp)
              have hq7 := blk_kept HQA.out hg7 (by simp; omega)
              obtain ⟨a0, a1, a2, a3, a4, g0, g1, g2, g3, g4⟩ := five_cells hq7
              have HS8 := Lib.hid (HS7.out.set (o := 2) hp hWq HQV.out (.int .i8 kk))
              have hq8 : (w7.setCell ⟨q, 2, none⟩ (.int .i8 kk)).heap[q]? = some (.cells #[.int .i8 m, .int .i8 n, .int .i8 kk, .int .i8 pt, .int .i8 pd] 49 (0, 0)) := set_block hq7 2 (.int .i8 kk)
              have HQ8 := Lib.hid hq8
              clear hq8 hq7 hsa hs7 hg7 HS7 HS6a HLA HQA hkk hp6
              go_wp2_with fail
              have hs8 := HS8.out.src
              refine (HP.out _ _ hs8 (by omega) _ (by omega)).mono ?_
              rintro e w9 ⟨t, rfl, tt0, tt1, hs9, hg9⟩
              have et : IntKind.i8.wrap t = t := by simp [IntKind.wrap, IntKind.bits, IntKind.signed]; omega
              have HS9 := Lib.hid (HS8.out.draw hs9 hg9 hp)
              have hq9 := blk_kept HQ8.out hg9 (by simp; omega)
              clear a0 a1 a2 a3 a4 g0 g1 g2 g3 g4 hs8 hg9 HS8 HQ8 hs9
              obtain ⟨a0, a1, a2, a3, a4, g0, g1, g2, g3, g4⟩ := five_cells hq9
              obtain ⟨c0, c1, c2, c3, c4, f0, f1, f2, f3, f4⟩ := five_cells HS9.out.blk
              have HSA := Lib.hid (HS9.out.set (o := 3) hp hWq HQV.out (.int .i8 t))
              have HOK := Lib.hid (drawn_pc ⟨m, n, kk, t, pd⟩ (c := ⟨m, n⟩) (by show (0 ≤ (m : Int) ∧ (m : Int) ≤ 23) ∧ 0 ≤ (n : Int) ∧ (n : Int) ≤ 23; omega) rfl rfl hkk5.1 hkk5.2 (by show 0 ≤ t; omega) (by show t ≤ 3; omega) d0 d1)
              have hzq := lt_of_block hq9
              clear hq9 HS9
              have HOWN := Lib.hid HSA.out.own.1
              go_wp2_with (at_builtin; go_must (refine wpList_append_lies _ rfl _ _ 25 rfl (b + 1) 49 i0 (.agg #[.int .i8 0, .int .i8 0, .int .i8 0, .int .i8 0, .int .i8 0]) 5 5 Tryz.underlying25 hi hz0 hz1 hz2 rfl (by decide) _ _ _ rfl (own_below HOWN.out (bl_alloc (Below.refl _ _)) (Nat.le_refl _)) ⟨_, 0, none⟩ 1 1 [.int .i8 m, .int .i8 n, .int .i8 kk, .int .i8 t, .int .i8 pd] rfl rfl (sl_newsD _ #[.int .i8 m, .int .i8 n, .int .i8 kk, .int .i8 t, .int .i8 pd] _ _ (by simp)) (Pc.one (⟨m, n, kk, t, pd⟩ : Pc)) (by omega) (by unfold maxLen; omega) (by omega) (by simp; omega) _ rfl ?_); intro gg cap3 wz hown3 hgrow hat3 hlt3; have hbk := HSA.out.after hp hgrow (fun q hq => (HOWN.out.lt q hq).1); obtain ⟨e0, e1, e2, e3, e4, h0, h1, h2, h3, h4⟩ := five_cells hbk)
              go_roundw
              case rel => exact ⟨m + 1, _, ps ++ [(⟨m, n, kk, t, pd⟩ : Pc)], by omega, by go_num, by rw [show ((m + 1 : Nat) : Int) = (m : Int) + 1 by omega]; exact HI.out.push (⟨m, n, kk, t, pd⟩ : Pc) HOK.out.1 HOK.out.2 rfl rfl (by omega) hlt2 (by omega) hlt1, fun _ => by simp, (HSA.out.pushP (P := (⟨m, n, kk, t, pd⟩ : Pc)) hp hWb hgrow hat3 hown3).le (by omega)⟩
              case measure => simp [intOf]; omega
            | true =>
              obtain ⟨a0, a1, a2, a3, a4, g0, g1, g2, g3, g4⟩ := five_cells hq6
              obtain ⟨c0, c1, c2, c3, c4, f0, f1, f2, f3, f4⟩ := five_cells HS6.out.blk
              have HSA := HS6
              have HOK := Lib.hid (drawn_pc ⟨m, n, pk, pt, pd⟩ (c := ⟨m, n⟩) (by show (0 ≤ (m : Int) ∧ (m : Int) ≤ 23) ∧ 0 ≤ (n : Int) ∧ (n : Int) ≤ 23; omega) rfl rfl k0 k1 t0 t1 d0 d1)
              have hzq := lt_of_block hq6
              clear hq6 hs6 HS6
              have HOWN := Lib.hid HSA.out.own.1
              go_wp2_with (at_builtin; go_must (refine wpList_append_lies _ rfl _ _ 25 rfl (b + 1) 49 i0 (.agg #[.int .i8 0, .int .i8 0, .int .i8 0, .int .i8 0, .int .i8 0]) 5 5 Tryz.underlying25 hi hz0 hz1 hz2 rfl (by decide) _ _ _ rfl (own_below HOWN.out (bl_alloc (Below.refl _ _)) (Nat.le_refl _)) ⟨_, 0, none⟩ 1 1 [.int .i8 m, .int .i8 n, .int .i8 pk, .int .i8 pt, .int .i8 pd] rfl rfl (sl_newsD _ #[.int .i8 m, .int .i8 n, .int .i8 pk, .int .i8 pt, .int .i8 pd] _ _ (by simp)) (Pc.one (⟨m, n, pk, pt, pd⟩ : Pc)) (by omega) (by unfold maxLen; omega) (by omega) (by simp; omega) _ rfl ?_); intro gg cap3 wz hown3 hgrow hat3 hlt3; have hbk := HSA.out.after hp hgrow (fun q hq => (HOWN.out.lt q hq).1); obtain ⟨e0, e1, e2, e3, e4, h0, h1, h2, h3, h4⟩ := five_cells hbk)
              go_roundw
              case rel => exact ⟨m + 1, _, ps ++ [(⟨m, n, pk, pt, pd⟩ : Pc)], by omega, by go_num, by rw [show ((m + 1 : Nat) : Int) = (m : Int) + 1 by omega]; exact HI.out.push (⟨m, n, pk, pt, pd⟩ : Pc) HOK.out.1 HOK.out.2 rfl rfl (by omega) hlt2 (by omega) hlt1, fun _ => by simp, (HSA.out.pushP (P := (⟨m, n, pk, pt, pd⟩ : Pc)) hp hWb hgrow hat3 hown3).le (by omega)⟩
              case measure => simp [intOf]; omega
        · have hme : m = wd := by omega
          go_wp2_with fail
          go_roundw
          case rel => exact ⟨n + 1, _, ps, by omega, by go_num, by rw [show ((n + 1 : Nat) : Int) = (n : Int) + 1 by omega]; exact HI.out.row (by omega), fun _ => hne (.inr (by omega)), HS.out.le (by omega)⟩
          case measure => simp [intOf]; omega
    · have hne1 : n = hg := by omega
      have hl0 : 0 < ps.length := hne (by omega)
      obtain ⟨rb, cp, hve, hrb⟩ := own_posD hS.own.1 hl0
      subst hve
      have hps24 : ps.length ≤ 24 := by have := hI.len; omega
      have HVB : Hid (vBd ⟨wd, hg, ps⟩ = true ∧ (Bd.mk wd hg ps).ok) := Lib.hid ⟨hI.vBd (by omega) (by omega) (by omega), ⟨by show (-128 : Int) ≤ wd; omega, by show (wd : Int) ≤ 127; omega⟩, ⟨by show (-128 : Int) ≤ hg; omega, by show (hg : Int) ≤ 127; omega⟩, hI.ok⟩
      have hs := (hS.src).le (show k + 4 + n * 100 ≤ k + 204 by omega)
      have HS' := Lib.hid (hS.le (show k + 4 + n * 100 ≤ k + 204 by omega))
      clear hI hS HS HI hne
      go_wp2_with fail
      refine (HP.out _ _ hs (by omega) _ (by omega)).mono ?_
      rintro e w3 ⟨x, rfl, x0, x1, hs3, hg3⟩
      obtain ⟨m0, hm0, hm01⟩ : ∃ m0 : Nat, IntKind.i64.wrap (1 + x) = (m0 : Int) ∧ 1 ≤ m0 ∧ m0 ≤ 3 := by
        have : IntKind.i64.wrap (1 + x) = 1 + x := wrap_i64' _ (by omega) (by omega)
        exact ⟨(1 + x).toNat, by omega, by omega, by omega⟩
      have HS3 := Lib.hid (HS'.out.draw hs3 hg3 hp)
      clear hs3 hg3 HS' hs c0 c1 c2 c3 c4 f0 f1 f2 f3 f4 x0 x1
      go_wp2_with fail
      clear hm0
      go_loopw [8] (fun i wr => ∃ (m : Nat) (vI : Value) (is : List Po), is.length + m ≤ 3 ∧ (0 < is.length ∨ 0 < m) ∧ i = .int .i64 (m : Int) ∧ Hid (is.Nodup ∧ ∀ q ∈ is, q.ok ∧ poOk ps q = true) ∧ MrS W wr p b wd hg code (k + 210 + (3 - m) * 6) (.slice (some ⟨rb, 0, none⟩) ps.length cp) ps vI is (.slice none 0 0) []) (fun i _ => (intOf i).toNat)
      case atStart => exact ⟨m0, _, [], by simp; omega, .inr (by omega), rfl, Lib.hid ⟨by simp, by simp⟩, HS3.out.le (by omega)⟩
      case round =>
        clear HS3
        obtain ⟨m, vI, is, him, hne, rfl, hisok, hS⟩ := hrel
        obtain ⟨W3, hW3⟩ : ∃ W3, W3 = wr := ⟨_, rfl⟩
        subst hW3
        obtain ⟨ai, ci, hve, -⟩ := own_at hS.own.2.1
        subst hve
        obtain ⟨c0, c1, c2, c3, c4, f0, f1, f2, f3, f4⟩ := five_cells hS.blk
        have hbW := lt_of_block hS.blk
        have hrW : rb < W3.heap.size := hS.own_lt.1 rb rfl
        have HGET : Hid (∀ j (hj : j < ps.length), W3.cell? ⟨rb, j * 5, none⟩ = some (.int .i8 ps[j].x) ∧ W3.cell? ⟨rb, j * 5 + 1, none⟩ = some (.int .i8 ps[j].y)) := Lib.hid (fun j hj => by
          refine ⟨?_, ?_⟩
          · rw [hS.own.1.cellAt (j * 5) (by show j * 5 < ps.length * 5; omega)]
            exact flat_get Pc.len ps j 0 hj (by omega)
          · rw [hS.own.1.cellAt (j * 5 + 1) (by show j * 5 + 1 < ps.length * 5; omega)]
            exact flat_get Pc.len ps j 1 hj (by omega))
        have hs := hS.src
        have HS := Lib.hid hS
        clear hS
        by_cases hm1 : (m : Int) > 0
        · go_wp2_with fail
          go_cut [9] from 78 to 119 (fun s9 wx => ∃ (q j : Nat) (hj : j < ps.length), s9 = .pointer (some ⟨q, 0, none⟩) ∧ W3.heap.size ≤ q ∧ wx.heap[q]? = some (.cells #[.int .i8 ps[j].x, .int .i8 ps[j].y, .int .i8 0] 127 (0, 0)) ∧ SrcAt wx p code (k + 210 + (3 - m) * 6 + 2) ∧ W3.grownBy wx (some p))
          case first =>
            go_region_held3 (fun w' => W3.grownBy w' (some p) ∧ w'.cell? ⟨b, 2, none⟩ = some (.slice (some ⟨rb, 0, none⟩) ps.length cp) ∧ ∀ o, w'.cell? ⟨rb, o, none⟩ = W3.cell? ⟨rb, o, none⟩) ((refine ext_m ?_ c2 hbW (by omega) hrW (by omega); exact (by repeat (first | with_reducible exact grown_refl _ _ | with_reducible assumption | with_reducible apply grownS_drewN | with_reducible apply grownS_drew | with_reducible apply grownS_alloc | (with_reducible refine grown_setNew ?_ (by first | omega | (simp; omega)) _) | with_reducible refine grown_trans ?_ (by with_reducible assumption))))) (first | (go_at_call 67; refine (HP.out _ _ (by repeat (first | with_reducible assumption | with_reducible apply SrcAt.drewN | with_reducible apply SrcAt.drew | with_reducible apply SrcAt.alloc | (with_reducible refine SrcAt.setNew ?_ (by omega) _))) (by omega) _ (by omega)).mono ?_; rintro e w4 ⟨u, rfl, u0, u1, hs4, hg4⟩; have hp4 := hs4.lt; obtain ⟨j, hj, hj2⟩ : ∃ j : Nat, u = (j : Int) ∧ j < ps.length := ⟨u.toNat, by omega, by omega⟩; subst hj; have hj3 : (j : Int) < (ps.length : Int) := (by omega); obtain ⟨q0, q1⟩ := HGET.out j hj2; (try (have hbk := Lib.hid (alloc_keptD hg4 (by omega)); obtain ⟨y0, y1, y2, yf⟩ := three_cells hbk.out)); have hz4 := hg4.size; (try simp [Nat.succ_le_iff] at hz4)))
            all_goals
              go_wp2_with fail
              go_meet
              with_reducible apply fin_port hj2
              · first | with_reducible exact heap_alloc_new _ _ | with_reducible exact three_set3 hbk.out _ _ _
              · omega
              · exact (by repeat (first | with_reducible assumption | with_reducible apply SrcAt.drewN | with_reducible apply SrcAt.drew | with_reducible apply SrcAt.alloc | (with_reducible refine SrcAt.setNew ?_ (by omega) _)))
              · exact (by repeat (first | with_reducible exact grown_refl _ _ | with_reducible assumption | with_reducible apply grownS_drewN | with_reducible apply grownS_drew | with_reducible apply grownS_alloc | (with_reducible refine grown_setNew ?_ (by first | omega | (simp; omega)) _) | with_reducible refine grown_trans ?_ (by with_reducible assumption)))
          case rest =>
            obtain ⟨q, j, hj, rfl, hqW, hblk, hs4, hg4⟩ := hcut
            have HNQ := Lib.hid (HS.out.newb hqW)
            have hbq := HNQ.out.1
            have HS4 := Lib.hid (HS.out.draw hs4 hg4 hp)
            have hWq : W.heap.size ≤ q := by omega
            obtain ⟨m, rfl⟩ : ∃ m', m = m' + 1 := ⟨m - 1, by omega⟩
            clear hg4 hs HS HGET c0 c1 c2 c3 c4 f0 f1 f2 f3 f4
            go_wp2_with fail
            refine (HP.out _ _ hs4 (by omega) _ (by omega)).mono ?_
            rintro e w5 ⟨s, rfl, s0, s1, hs5, hg5⟩
            have s2 : s ≤ 3 := by omega
            have es : IntKind.i8.wrap s = s := by simp [IntKind.wrap, IntKind.bits, IntKind.signed]; omega
            have HS5 := Lib.hid (HS4.out.draw hs5 hg5 hp)
            have hq5 := blk_kept hblk hg5 (by simp; omega)
            obtain ⟨a0, a1, a2, af⟩ := three_cells hq5
            have HS6 := Lib.hid (HS5.out.set (o := 2) hp hWq HNQ.out (.int .i8 s))
            have hq6 : (w5.setCell ⟨q, 2, none⟩ (.int .i8 s)).heap[q]? = some (.cells #[.int .i8 ps[j].x, .int .i8 ps[j].y, .int .i8 s] 127 (0, 0)) := set_block hq5 2 (.int .i8 s)
            obtain ⟨P, hP⟩ : ∃ P : Po, P = ⟨ps[j].x, ps[j].y, s⟩ := ⟨_, rfl⟩
            have HPK : Hid (P.ok ∧ poOk ps P = true) := Lib.hid (by
              have ho := HVB.out.2.2.2 j hj
              rw [hP]
              refine ⟨⟨ho.1.1, ho.1.2, ⟨by show -128 ≤ s; omega, by show s ≤ 127; omega⟩⟩, ?_⟩
              unfold poOk
              simp only [Bool.and_eq_true, decide_eq_true_eq]
              exact ⟨by simp [inB]; omega, fnd_pc ps j hj⟩)
            have hq6' : (w5.setCell ⟨q, 2, none⟩ (.int .i8 s)).heap[q]? = some (.cells #[.int .i8 P.x, .int .i8 P.y, .int .i8 P.s] 127 (0, 0)) := by rw [hP]; exact hq6
            have HQ6 := Lib.hid hq6'
            clear hq5 hq6 hq6' hblk hs4 HS4 HS5 hg5 hs5 hP
            go_wp2_with fail
            clear a0 a1 a2 af es s0 s1 s2
            go_loopw [10, 11] (fun fr i wr => ∃ n : Nat, n ≤ is.length ∧ i = .int .i64 (n : Int) ∧ fr = .bool (decide (P ∉ is.take n)) ∧ wr.heap[q]? = some (.cells #[.int .i8 P.x, .int .i8 P.y, .int .i8 P.s] 127 (0, 0)) ∧ MrS W wr p b wd hg code (k + 210 + (3 - (m + 1)) * 6 + 2 + 2) (.slice (some ⟨rb, 0, none⟩) ps.length cp) ps (.slice ai is.length ci) is (.slice none 0 0) []) (fun _ i _ => is.length - (intOf i).toNat)
            case atStart => exact ⟨0, by omega, rfl, by simp, HQ6.out, HS6.out⟩
            case round =>
              clear HQ6 HS6
              obtain ⟨n, hn, rfl, rfl, hq7, hS7⟩ := hrel
              obtain ⟨W7, hW7⟩ : ∃ W7, W7 = wr := ⟨_, rfl⟩
              subst hW7
              obtain ⟨c0, c1, c2, c3, c4, f0, f1, f2, f3, f4⟩ := five_cells hS7.blk
              obtain ⟨a0, a1, a2, af⟩ := three_cells hq7
              have HS7 := Lib.hid hS7
              have HQ7 := Lib.hid hq7
              by_cases hlt2 : (n : Int) < (is.length : Int)
              · have hlt2' : n < is.length := by omega
                have HDR : Hid (∀ N, MrS W (W7.drewN N) p b wd hg code (k + 210 + (3 - (m + 1)) * 6 + 2 + 2) (.slice (some ⟨rb, 0, none⟩) ps.length cp) ps (.slice ai is.length ci) is (.slice none 0 0) []) := Lib.hid (fun N => HS7.out.draw HS7.out.src.drewN ⟨rfl, rfl, rfl, Nat.le_refl _, fun _ _ _ => rfl⟩ hp)
                rcases dec_cases (P ∉ is.take n) with ⟨g1, k1⟩ | ⟨g1, k1⟩
                · obtain ⟨B, hB⟩ : ∃ B, B = decide (is[n] ≠ P) := ⟨_, rfl⟩
                  have HBB : Hid (decide (P ∉ is.take (n + 1)) = B) := Lib.hid (by
                    rw [hB, List.take_succ_eq_append_getElem hlt2', Bool.eq_iff_iff, decide_eq_true_eq, decide_eq_true_eq, List.mem_append, List.mem_singleton]
                    constructor
                    · intro h e
                      exact h (.inr e.symm)
                    · rintro h (h' | h')
                      · exact k1 h'
                      · exact h h'.symm)
                  have hrun : ∀ W' : World, (binOp .neq 127 (.agg #[.int .i8 is[n].x, .int .i8 is[n].y, .int .i8 is[n].s]) (.agg #[.int .i8 P.x, .int .i8 P.y, .int .i8 P.s])).run Tryz.prog W' = .ok (.bool B) W' := fun W' => by rw [hB]; exact run_neq_po is[n] P W'
                  obtain ⟨rI, cI, hve, hrI⟩ := own_posD hS7.own.2.1 (by show 0 < is.length; omega)
                  cases hve
                  have d0 : W7.cell? ⟨rI, n * 3, none⟩ = some (.int .i8 is[n].x) := by
                    rw [hS7.own.2.1.cellAt (n * 3) (by show n * 3 < is.length * 3; omega)]
                    exact flat_get Po.len is n 0 hlt2' (by omega)
                  have d1 : W7.cell? ⟨rI, n * 3 + 1, none⟩ = some (.int .i8 is[n].y) := by
                    rw [hS7.own.2.1.cellAt (n * 3 + 1) (by show n * 3 + 1 < is.length * 3; omega)]
                    exact flat_get Po.len is n 1 hlt2' (by omega)
                  have d2 : W7.cell? ⟨rI, n * 3 + 2, none⟩ = some (.int .i8 is[n].s) := by
                    rw [hS7.own.2.1.cellAt (n * 3 + 2) (by show n * 3 + 2 < is.length * 3; omega)]
                    exact flat_get Po.len is n 2 hlt2' (by omega)
                  clear hB hS7 hq7 k1
                  rw [g1]
                  go_wp2_with fail
                  go_quiet (fail)
                  go_wp2
                  go_roundw
                  case rel => exact ⟨n + 1, by omega, by go_num, by rw [HBB.out], HQ7.out, HDR.out _⟩
                  case measure => simp [intOf]; omega
                · have HBB : Hid (decide (P ∉ is.take (n + 1)) = false) := Lib.hid (by
                    rw [List.take_succ_eq_append_getElem hlt2', decide_eq_false_iff_not]
                    intro h
                    exact k1 (fun h' => h (List.mem_append_left _ h')))
                  clear hS7 hq7 k1
                  rw [g1]
                  go_wp2_with fail
                  go_quiet (fail)
                  go_wp2
                  go_roundw
                  case rel => exact ⟨n + 1, by omega, by go_num, by rw [HBB.out], HQ7.out, HDR.out _⟩
                  case measure => simp [intOf]; omega
              · have hnl : n = is.length := by omega
                have hzq := lt_of_block hq7
                have HTK : Hid (decide (P ∉ is.take n) = decide (P ∉ is)) := Lib.hid (by rw [List.take_of_length_le (by omega)])
                rw [HTK.out]
                clear hS7 hq7 HTK
                rcases dec_cases (P ∉ is) with ⟨g1, k1⟩ | ⟨g1, k1⟩
                · have HPN := Lib.hid k1
                  have HOWN := Lib.hid HS7.out.own.2.1
                  rw [g1]
                  clear k1
                  go_wp2_with (at_builtin; go_must (refine wpList_append_lies _ rfl _ _ 52 rfl (b + 1) 127 i1 (.agg #[.int .i8 0, .int .i8 0, .int .i8 0]) 3 3 Tryz.underlying52 hi1 hi10 hi11 hi12 rfl (by decide) _ is.length (flat Po.cells is) rfl (own_below HOWN.out (bl_alloc (Below.refl _ _)) (Nat.le_refl _)) ⟨_, 0, none⟩ 1 1 [.int .i8 P.x, .int .i8 P.y, .int .i8 P.s] rfl rfl (sl_newsD _ #[.int .i8 P.x, .int .i8 P.y, .int .i8 P.s] _ _ (by simp)) (Po.one P) (by omega) (by unfold maxLen; omega) (by omega) (by simp; omega) _ rfl ?_); intro gg cap3 wz hown3 hgrow hat3 hlt3; have hbk := HS7.out.after hp hgrow (fun q hq => (HOWN.out.lt q hq).1); obtain ⟨e0, e1, e2, e3, e4, h0, h1, h2, h3, h4⟩ := five_cells hbk)
                  go_roundw
                  case rel =>
                    refine ⟨m, _, is ++ [P], by simp only [List.length_append, List.length_cons, List.length_nil]; omega, .inl (by simp), by go_num, Lib.hid ⟨?_, ?_⟩, (HS7.out.pushI (P := P) hp hWb hgrow hat3 hown3).le (by omega)⟩
                    · rw [List.nodup_append]
                      refine ⟨hisok.out.1, by simp, ?_⟩
                      intro a ha c hc' e
                      rw [List.mem_singleton] at hc'
                      subst hc'
                      subst e
                      exact HPN.out ha
                    · intro r hr
                      rw [List.mem_append, List.mem_singleton] at hr
                      rcases hr with hr | rfl
                      · exact hisok.out.2 r hr
                      · exact HPK.out
                  case measure => simp [intOf]
                · have hpos : 0 < is.length := by
                    have h9 : P ∈ is := by
                      refine Classical.byContradiction fun h => k1 h
                    exact List.length_pos_of_mem h9
                  rw [g1]
                  clear k1
                  go_wp2_with fail
                  go_roundw
                  case rel => exact ⟨m, _, is, by omega, .inl hpos, by go_num, hisok, HS7.out.le (by omega)⟩
                  case measure => simp [intOf]
        · have hil : 0 < is.length := by omega
          have hm0 : m = 0 := by omega
          subst hm0
          go_wp2_with fail
          refine (HP.out _ _ hs (by omega) _ (by omega)).mono ?_
          rintro e w4 ⟨x, rfl, x0, x1, hs4, hg4⟩
          obtain ⟨m0, hm0, hm01⟩ : ∃ m0 : Nat, IntKind.i64.wrap (1 + x) = (m0 : Int) ∧ 1 ≤ m0 ∧ m0 ≤ 2 := by
            have : IntKind.i64.wrap (1 + x) = 1 + x := wrap_i64' _ (by omega) (by omega)
            exact ⟨(1 + x).toNat, by omega, by omega, by omega⟩
          have HS4 := Lib.hid (HS.out.draw hs4 hg4 hp)
          clear hs4 hg4 HS hs c0 c1 c2 c3 c4 f0 f1 f2 f3 f4 x0 x1 HGET hbW hrW hm1
          go_wp2_with fail
          clear hm0
          go_loopw [12] (fun i wr => ∃ (m : Nat) (vO : Value) (os : List Ce), os.length + m ≤ 2 ∧ (0 < os.length ∨ 0 < m) ∧ i = .int .i64 (m : Int) ∧ Hid (∀ c ∈ os, c.ok ∧ outOk ps c = true) ∧ MrS W wr p b wd hg code (k + 240 + (2 - m) * 6) (.slice (some ⟨rb, 0, none⟩) ps.length cp) ps (.slice ai is.length ci) is vO os) (fun i _ => (intOf i).toNat)
          case atStart => exact ⟨m0, _, [], by simp; omega, .inr (by omega), rfl, Lib.hid (by simp), HS4.out.le (by omega)⟩
          case round =>
            clear HS4
            obtain ⟨m, vO, os, hom, hne, rfl, hosok, hS⟩ := hrel
            obtain ⟨W5, hW5⟩ : ∃ W5, W5 = wr := ⟨_, rfl⟩
            subst hW5
            obtain ⟨ao, co, hve, -⟩ := own_at hS.own.2.2.1
            subst hve
            obtain ⟨c0, c1, c2, c3, c4, f0, f1, f2, f3, f4⟩ := five_cells hS.blk
            have HS := Lib.hid hS
            have hs := hS.src
            by_cases hm1 : (m : Int) > 0
            · have hbW := lt_of_block hS.blk
              have hrW : rb < W5.heap.size := hS.own_lt.1 rb rfl
              have HGET : Hid (∀ j (hj : j < ps.length), W5.cell? ⟨rb, j * 5, none⟩ = some (.int .i8 ps[j].x) ∧ W5.cell? ⟨rb, j * 5 + 1, none⟩ = some (.int .i8 ps[j].y)) := Lib.hid (fun j hj => by
                refine ⟨?_, ?_⟩
                · rw [hS.own.1.cellAt (j * 5) (by show j * 5 < ps.length * 5; omega)]
                  exact flat_get Pc.len ps j 0 hj (by omega)
                · rw [hS.own.1.cellAt (j * 5 + 1) (by show j * 5 + 1 < ps.length * 5; omega)]
                  exact flat_get Pc.len ps j 1 hj (by omega))
              have HRB : Hid (∀ (Y : World) (row : Option Nat), W5.grownBy Y row → row ≠ some rb → ∀ o, Y.cell? ⟨rb, o, none⟩ = W5.cell? ⟨rb, o, none⟩) := Lib.hid (fun Y row h1 h2 o => World.cell?_of_block (a := ⟨rb, o, none⟩) (h1.block rb hrW (fun e => h2 e.symm)))
              obtain ⟨m, rfl⟩ : ∃ m', m = m' + 1 := ⟨m - 1, by omega⟩
              clear hS
              go_wp2_with fail
              refine wp_region_T 0 14 (fun w' => w'.cell? ⟨b, 4, none⟩ = some (.slice ao os.length co) ∧ w'.cell? ⟨b, 2, none⟩ = some (.slice (some ⟨rb, 0, none⟩) ps.length cp) ∧ ∀ o, w'.cell? ⟨rb, o, none⟩ = W5.cell? ⟨rb, o, none⟩) (by kernel_rfl) ⟨c4, c2, fun _ => rfl⟩ (fun hHeld => ?_)
              have hgd : W5.grownBy W5.drew (some p) := ⟨rfl, rfl, rfl, Nat.le_refl _, fun _ _ _ => rfl⟩
              have HSY := Lib.hid (HS.out.draw HS.out.src.drew hgd hp)
              clear HS hs c0 c1 c2 c3 c4 f0 f1 f2 f3 f4
              (refine' wpAnyT_take 12 0 (oi := ?oi1) (v := ?v1) ?hi1 (by kernel_rfl) (by kernel_rfl) (by kernel_rfl) (by kernel_rfl) (by kernel_rfl) (by kernel_rfl) ?hQ1 ?hy1 (by assumption) ?rest1; (case hi1 => simp only [List.getElem?_toArray, List.getElem?_cons_zero, List.getElem?_cons_succ]; rfl); (case hQ1 => exact fun _ _ _ h => h); (case hy1 => refine Or.inl ⟨by rfl, ?_⟩; intro wz hSw; (try dsimp only at hSw); go_simp; try with_reducible rfl); try simp only [Act.put, List.setIfInBounds_toArray, List.set_cons_zero, List.set_cons_succ])
              (refine' wpAnyT_take 12 1 (oi := ?oi2) (v := ?v2) ?hi2 (by kernel_rfl) (by kernel_rfl) (by kernel_rfl) (by kernel_rfl) (by kernel_rfl) (by kernel_rfl) ?hQ2 ?hy2 (by assumption) ?rest2; (case hi2 => simp only [List.getElem?_toArray, List.getElem?_cons_zero, List.getElem?_cons_succ]; rfl); (case hQ2 => exact fun _ _ _ h => h); (case hy2 => refine Or.inl ⟨by rfl, ?_⟩; intro wz hSw; (try dsimp only at hSw); go_simp; try with_reducible rfl); try simp only [Act.put, List.setIfInBounds_toArray, List.set_cons_zero, List.set_cons_succ])
              (refine' wpAnyT_take 12 2 (oi := ?oi3) (v := ?v3) ?hi3 (by kernel_rfl) (by kernel_rfl) (by kernel_rfl) (by kernel_rfl) (by kernel_rfl) (by kernel_rfl) ?hQ3 ?hy3 (by assumption) ?rest3; (case hi3 => simp only [List.getElem?_toArray, List.getElem?_cons_zero, List.getElem?_cons_succ]; rfl); (case hQ3 => exact fun _ _ _ h => h); (case hy3 => refine Or.inl ⟨by rfl, ?_⟩; intro wz hSw; (try dsimp only at hSw); go_simp; try with_reducible rfl); try simp only [Act.put, List.setIfInBounds_toArray, List.set_cons_zero, List.set_cons_succ])
              (refine' wpAnyT_take 12 3 (oi := ?oi4) (v := ?v4) ?hi4 (by kernel_rfl) (by kernel_rfl) (by kernel_rfl) (by kernel_rfl) (by kernel_rfl) (by kernel_rfl) ?hQ4 ?hy4 (by assumption) ?rest4; (case hi4 => simp only [List.getElem?_toArray, List.getElem?_cons_zero, List.getElem?_cons_succ]; rfl); (case hQ4 => exact fun _ _ _ h => h); (case hy4 => refine Or.inl ⟨by rfl, ?_⟩; intro wz hSw; (try dsimp only at hSw); go_simp; try with_reducible rfl); try simp only [Act.put, List.setIfInBounds_toArray, List.set_cons_zero, List.set_cons_succ])
              (refine' wpAnyT_take 12 4 (oi := ?oi5) (v := ?v5) ?hi5 (by kernel_rfl) (by kernel_rfl) (by kernel_rfl) (by kernel_rfl) (by kernel_rfl) (by kernel_rfl) ?hQ5 ?hy5 (by assumption) ?rest5; (case hi5 => simp only [List.getElem?_toArray, List.getElem?_cons_zero, List.getElem?_cons_succ]; rfl); (case hQ5 => exact fun _ _ _ h => h); (case hy5 => refine Or.inl ⟨by rfl, ?_⟩; intro wz hSw; (try dsimp only at hSw); go_simp; try with_reducible rfl); try simp only [Act.put, List.setIfInBounds_toArray, List.set_cons_zero, List.set_cons_succ])
              (refine' wpAnyT_take 12 5 (oi := ?oi6) (v := ?v6) ?hi6 (by kernel_rfl) (by kernel_rfl) (by kernel_rfl) (by kernel_rfl) (by kernel_rfl) (by kernel_rfl) ?hQ6 ?hy6 (by assumption) ?rest6; (case hi6 => simp only [List.getElem?_toArray, List.getElem?_cons_zero, List.getElem?_cons_succ]; rfl); (case hQ6 => exact fun _ _ _ h => h); (case hy6 => refine Or.inl ⟨by rfl, ?_⟩; intro wz hSw; (try dsimp only at hSw); go_simp; try with_reducible rfl); try simp only [Act.put, List.setIfInBounds_toArray, List.set_cons_zero, List.set_cons_succ])
              (refine' wpAnyT_take 12 6 (oi := ?oi7) (v := ?v7) ?hi7 (by kernel_rfl) (by kernel_rfl) (by kernel_rfl) (by kernel_rfl) (by kernel_rfl) (by kernel_rfl) ?hQ7 ?hy7 (by assumption) ?rest7; (case hi7 => simp only [List.getElem?_toArray, List.getElem?_cons_zero, List.getElem?_cons_succ]; rfl); (case hQ7 => exact fun _ _ _ h => h); (case hy7 => refine Or.inl ⟨by rfl, ?_⟩; intro wz hSw; (try dsimp only at hSw); go_simp; try with_reducible rfl); try simp only [Act.put, List.setIfInBounds_toArray, List.set_cons_zero, List.set_cons_succ])
              refine wpAnyT_ready (rs := [7]) (by kernel_rfl) (by simp) ?_
              (refine' AllReadyT.cons (o := ?o12) ?ho12 (fun K hK => ?step12) AllReadyT.nil; (case ho12 => simp only [List.getElem?_toArray, List.getElem?_cons_zero, List.getElem?_cons_succ]; rfl))
              go_simp
              have hsy := HSY.out.src
              refine (HP.out _ _ hsy (by omega) _ (by omega)).mono ?_
              rintro e Y1 ⟨u, rfl, u0, u1, hs1, hg1⟩
              obtain ⟨j, hj, hj2⟩ : ∃ j : Nat, u = (j : Int) ∧ j < ps.length := ⟨u.toNat, by omega, by omega⟩
              subst hj
              have hj3 : (j : Int) < (ps.length : Int) := by omega
              have HS1 := Lib.hid (HSY.out.draw hs1 hg1 hp)
              have hg51 := grown_trans hgd hg1
              obtain ⟨c0, c1, c2, c3, c4, f0, f1, f2, f3, f4⟩ := five_cells HS1.out.blk
              refine hK.out _ _ (fun _ _ => ⟨c4, c2, HRB.out _ _ hg51 (by simp; omega)⟩) (fun hHd => ?_)
              have hHeld := hHd (by decide) (by decide)
              clear hHd hK K c0 c1 c2 c3 c4 f0 f1 f2 f3 f4 hs1 hg1 HSY hsy hgd
              try simp only [Act.put, List.setIfInBounds_toArray, List.set_cons_zero, List.set_cons_succ]
              obtain ⟨q0, q1⟩ := HGET.out j hj2
              (refine' wpAnyT_take 12 8 (oi := ?oi8) (v := ?v8) ?hi8 (by kernel_rfl) (by kernel_rfl) (by kernel_rfl) (by kernel_rfl) (by kernel_rfl) (by kernel_rfl) ?hQ8 ?hy8 (by assumption) ?rest8; (case hi8 => simp only [List.getElem?_toArray, List.getElem?_cons_zero, List.getElem?_cons_succ]; rfl); (case hQ8 => exact fun _ _ _ h => h); (case hy8 => refine Or.inl ⟨by rfl, ?_⟩; intro wz hSw; (try dsimp only at hSw); go_simp; try with_reducible rfl); try simp only [Act.put, List.setIfInBounds_toArray, List.set_cons_zero, List.set_cons_succ])
              (refine' wpAnyT_take 12 9 (oi := ?oi9) (v := ?v9) ?hi9 (by kernel_rfl) (by kernel_rfl) (by kernel_rfl) (by kernel_rfl) (by kernel_rfl) (by kernel_rfl) ?hQ9 ?hy9 (by assumption) ?rest9; (case hi9 => simp only [List.getElem?_toArray, List.getElem?_cons_zero, List.getElem?_cons_succ]; rfl); (case hQ9 => exact fun _ _ _ h => h); (case hy9 => refine Or.inl ⟨by rfl, ?_⟩; intro wz hSw; (try dsimp only at hSw); go_simp; try with_reducible rfl); try simp only [Act.put, List.setIfInBounds_toArray, List.set_cons_zero, List.set_cons_succ])
              (refine' wpAnyT_take 12 10 (oi := ?oi10) (v := ?v10) ?hi10 (by kernel_rfl) (by kernel_rfl) (by kernel_rfl) (by kernel_rfl) (by kernel_rfl) (by kernel_rfl) ?hQ10 ?hy10 (by assumption) ?rest10; (case hi10 => simp only [List.getElem?_toArray, List.getElem?_cons_zero, List.getElem?_cons_succ]; rfl); (case hQ10 => exact fun _ _ _ h => h); (case hy10 => refine Or.inl ⟨by rfl, ?_⟩; intro wz hSw; (try dsimp only at hSw); go_simp; try with_reducible rfl); try simp only [Act.put, List.setIfInBounds_toArray, List.set_cons_zero, List.set_cons_succ])
              refine wpAnyT_ready (rs := [11]) (by kernel_rfl) (by simp) ?_
              (refine' AllReadyT.cons (o := ?o13) ?ho13 (fun K hK => ?step13) AllReadyT.nil; (case ho13 => simp only [List.getElem?_toArray, List.getElem?_cons_zero, List.getElem?_cons_succ]; rfl))
              go_simp
              obtain ⟨P, hP⟩ : ∃ P : Ce, P = ⟨ps[j].x, ps[j].y⟩ := ⟨_, rfl⟩
              have HPK : Hid (P.ok ∧ outOk ps P = true) := Lib.hid (by
                have ho := HVB.out.2.2.2 j hj2
                rw [hP]
                refine ⟨⟨ho.1.1, ho.1.2⟩, ?_⟩
                unfold outOk
                rw [decide_eq_true_eq]
                exact fnd_pc ps j hj2)
              have hPx : ps[j].x = P.x := by rw [hP]
              have hPy : ps[j].y = P.y := by rw [hP]
              rw [hPx, hPy]
              have HS2 := Lib.hid (HS1.out.alloc hp (.cells #[.int .i8 P.x, .int .i8 P.y] 47))
              have hla := heap_alloc_new Y1 (.cells #[.int .i8 P.x, .int .i8 P.y] 47)
              have hg52 := grownS_alloc hg51 (.cells #[.int .i8 P.x, .int .i8 P.y] 47)
              obtain ⟨c0, c1, c2, c3, c4, f0, f1, f2, f3, f4⟩ := five_cells HS2.out.blk
              refine hK.out _ _ (fun _ _ => ⟨c4, c2, HRB.out _ _ hg52 (by simp; omega)⟩) (fun hHd => ?_)
              have hHeld := hHd (by decide) (by decide)
              clear hHd hK K c0 c1 c2 c3 c4 f0 f1 f2 f3 f4 hP hPx hPy q0 q1
              try simp only [Act.put, List.setIfInBounds_toArray, List.set_cons_zero, List.set_cons_succ]
              refine wpAnyT_ready (rs := [12]) (by kernel_rfl) (by simp) ?_
              (refine' AllReadyT.cons (o := ?o14) ?ho14 (fun K hK => ?step14) AllReadyT.nil; (case ho14 => simp only [List.getElem?_toArray, List.getElem?_cons_zero, List.getElem?_cons_succ]; rfl))
              have hown0 := HS1.out.own.2.2.1
              have hbY := lt_of_block HS1.out.blk
              refine step_append_lies _ (by rfl) _ _ _ (by rfl) (b + 1) 47 i2 _ 2 2 Tryz.underlying53 hi2 hi20 hi21 hi22 rfl (by omega) (.slice ao os.length co) os.length (flat Ce.cells os) (by rfl) (own_below hown0 (bl_alloc (Below.refl _ _)) (Nat.le_refl _)) ⟨Y1.heap.size, 0, none⟩ 1 1 [.int .i8 P.x, .int .i8 P.y] (by rfl) (by rfl) (World.news_of_block (cs := #[.int .i8 P.x, .int .i8 P.y]) (t := 47) (fr := (0, 0)) hla) (Ce.one P) (by omega) (by unfold maxLen; omega) (by omega) (by simp; omega) _ rfl ?_
              intro gg cap3 Y3 hown3 hgrow hat3 hlt3
              have hbk := HS1.out.after hp hgrow (fun q hq => (hown0.lt q hq).1)
              obtain ⟨c0, c1, c2, c3, c4, f0, f1, f2, f3, f4⟩ := five_cells hbk
              have hrb3 : ∀ o, Y3.cell? ⟨rb, o, none⟩ = W5.cell? ⟨rb, o, none⟩ := fun o => by
                have hne : rb < (Y1.alloc (.cells #[.int .i8 P.x, .int .i8 P.y] 47)).heap.size := Nat.lt_of_lt_of_le hrW hg52.size
                rw [World.cell?_of_block (a := ⟨rb, o, none⟩) (hgrow.block rb hne (HS1.out.own.2.2.2.2.1.1 rb rfl))]
                exact HRB.out _ _ hg52 (by simp; omega) o
              refine hK.out _ _ (fun _ _ => ⟨c4, c2, hrb3⟩) (fun hHd => ?_)
              have hHeld := hHd (by decide) (by decide)
              clear hHd hK K hrb3
              try simp only [Act.put, List.setIfInBounds_toArray, List.set_cons_zero, List.set_cons_succ]
              (refine' wpAnyT_take 12 13 (oi := ?oi11) (v := ?v11) ?hi11 (by kernel_rfl) (by kernel_rfl) (by kernel_rfl) (by kernel_rfl) (by kernel_rfl) (by kernel_rfl) ?hQ11 ?hy11 (by assumption) ?rest11; (case hi11 => simp only [List.getElem?_toArray, List.getElem?_cons_zero, List.getElem?_cons_succ]; rfl); (case hQ11 => exact fun _ _ _ h => h); (case hy11 => refine Or.inl ⟨by rfl, ?_⟩; intro wz hSw; (try dsimp only at hSw); go_simp; try with_reducible rfl); try simp only [Act.put, List.setIfInBounds_toArray, List.set_cons_zero, List.set_cons_succ])
              refine wpAnyT_ready (rs := [14]) (by kernel_rfl) (by simp) ?_
              (refine' AllReadyT.cons (o := ?o15) ?ho15 (fun K hK => ?step15) AllReadyT.nil; (case ho15 => simp only [List.getElem?_toArray, List.getElem?_cons_zero, List.getElem?_cons_succ]; rfl))
              go_simp
              refine hK.out _ _ (fun _ h => absurd h (by decide)) (fun _ => ?_)
              clear hK K hHeld
              try simp only [Act.put, List.setIfInBounds_toArray, List.set_cons_zero, List.set_cons_succ]
              refine wpAnyT_done (by kernel_rfl) ?_ _
              have HSF := Lib.hid (HS1.out.pushO (P := P) hp hWb hgrow hat3 hown3)
              clear c0 c1 c2 c3 c4 f0 f1 f2 f3 f4 hbk hown3 hgrow hat3 hlt3 hown0 HS1 HS2 hla hg52 hg51
              go_wp2_with fail
              go_roundw
              case rel =>
                refine ⟨m, _, os ++ [P], by simp only [List.length_append, List.length_cons, List.length_nil]; omega, .inl (by simp), by go_num, Lib.hid ?_, HSF.out.le (by omega)⟩
                intro c hc'
                rw [List.mem_append, List.mem_singleton] at hc'
                rcases hc' with hc' | rfl
                · exact hosok.out c hc'
                · exact HPK.out
              case measure => simp [intOf]
            · have hol : 0 < os.length := by omega
              have hq := blk_kept HWq.out hS.grown (by simp; omega)
              obtain ⟨d0, d1, d2, d3, d4, g0, g1, g2, g3, g4⟩ := five_cells hq
              go_wp2_with fail
              have hh := five_set hq (.int .i8 wd) (.int .i8 hg) (.slice (some ⟨rb, 0, none⟩) ps.length cp) (.slice ai is.length ci) (.slice ao os.length co)
              refine bodyPost_ret (v := mcv wd hg (.slice (some ⟨rb, 0, none⟩) ps.length cp) (.slice ai is.length ci) (.slice ao os.length co)) (results_cell_row Tryz.results66 _ _ w.heap.size 55 _ (0, 0) _ rfl hh Tryz.underlying55 rfl (by kernel_rfl)) rfl ⟨(wd : Int), (hg : Int), .slice (some ⟨rb, 0, none⟩) ps.length cp, .slice ai is.length ci, .slice ao os.length co, rfl, ps, is, os, ?_, ?_, by omega, ?_, ?_, ?_⟩
              · have h1 := HVB.out.1
                unfold vMc inB
                simp only [Bool.and_eq_true, decide_eq_true_eq, List.all_eq_true]
                exact ⟨⟨⟨⟨h1, by show ps.length ≤ 60; omega⟩, by show (1 : Int) ≤ is.length; omega, by show (is.length : Int) ≤ 6; omega⟩, by show (1 : Int) ≤ os.length; omega, by show (os.length : Int) ≤ 8; omega⟩, ⟨fun q hq => (hisok.out.2 q hq).2, hisok.out.1⟩, fun c hc' => (hosok.out c hc').2⟩
              · exact ⟨HVB.out.2, fun q hq => (hisok.out.2 _ (List.getElem_mem hq)).1, fun q hq => (hosok.out _ (List.getElem_mem hq)).1⟩
              · have hwb : w.heap.size < b + 1 := by omega
                have h9 := HS.out.own
                have kp : ∀ (Y : World) (o : Nat) (u : Value), OwnM Y (b + 1) (.slice (some ⟨rb, 0, none⟩) ps.length cp) (.slice ai is.length ci) (.slice ao os.length co) ⟨⟨wd, hg, ps⟩, is, os⟩ → OwnM (Y.setCell ⟨w.heap.size, o, none⟩ u) (b + 1) (.slice (some ⟨rb, 0, none⟩) ps.length cp) (.slice ai is.length ci) (.slice ao os.length co) ⟨⟨wd, hg, ps⟩, is, os⟩ := fun Y o u hY => hY.kept (grown_set1 Y w.heap.size o u) (fun g e => by cases e; exact .inl hwb)
                have h10 := kp _ 4 (.slice ao os.length co) (kp _ 3 (.slice ai is.length ci) (kp _ 2 (.slice (some ⟨rb, 0, none⟩) ps.length cp) (kp _ 1 (.int .i8 hg) (kp _ 0 (.int .i8 wd) h9))))
                exact ⟨own_mono h10.1 (by omega), own_mono h10.2.1 (by omega), own_mono h10.2.2.1 (by omega), h10.2.2.2⟩
              · have hs9 := hs.le (show k + 240 + (2 - m) * 6 ≤ k + 1000 by omega)
                exact (by repeat (first | with_reducible assumption | with_reducible apply SrcAt.drewN | with_reducible apply SrcAt.drew | with_reducible apply SrcAt.alloc | (with_reducible refine SrcAt.setNew ?_ (by omega) _)))
              · have hgA := grown_trans HWg.out HS.out.grown
                exact (by repeat (first | with_reducible exact grown_refl _ _ | with_reducible assumption | with_reducible apply grownS_drewN | with_reducible apply grownS_drew | with_reducible apply grownS_alloc | (with_reducible refine grown_setNew ?_ (by first | omega | (simp; omega)) _) | with_reducible refine grown_trans ?_ (by with_reducible assumption)))
end Go.Proofs.YtmeefmoblkiebaaGreat
/- Contracts: machines that are moved (impl.MoveMachine), where all fits. -/
namespace Go.Proofs.YtmeefmoblkiebaaGreat
open Go.RowKit
set_option linter.unusedVariables false
set_option linter.unusedSimpArgs false
set_option maxHeartbeats 400000
set_option maxRecDepth 100000
/-- A row of which the first k are changed by f. -/
def upTo {α : Type} (f : α → α) (xs : List α) (k : Nat) : List α := xs.mapIdx (fun i p => if i < k then f p else p)
theorem upTo_len {α : Type} (f : α → α) (xs : List α) (k : Nat) : (upTo f xs k).length = xs.length := List.length_mapIdx
theorem upTo_get {α : Type} (f : α → α) (xs : List α) (k i : Nat) (h : i < (upTo f xs k).length) : (upTo f xs k)[i] = if i < k then f (xs[i]'(by rw [upTo_len] at h; exact h)) else xs[i]'(by rw [upTo_len] at h; exact h) := List.getElem_mapIdx
theorem upTo_zero {α : Type} (f : α → α) (xs : List α) : upTo f xs 0 = xs := by
  apply List.ext_getElem
  · exact upTo_len f xs 0
  · intro i h1 h2
    rw [upTo_get, if_neg (by omega)]
theorem upTo_all {α : Type} (f : α → α) (xs : List α) : upTo f xs xs.length = xs.map f := by
  apply List.ext_getElem
  · rw [upTo_len, List.length_map]
  · intro i h1 h2
    rw [upTo_get, if_pos (by rw [upTo_len] at h1; exact h1), List.getElem_map]
theorem upTo_succ {α : Type} (f : α → α) (xs : List α) (k : Nat) (hk : k < xs.length) : upTo f xs (k + 1) = (upTo f xs k).set k (f xs[k]) := by
  apply List.ext_getElem
  · rw [List.length_set, upTo_len, upTo_len]
  · intro i h1 h2
    rw [List.getElem_set, upTo_get]
    by_cases hik : k = i
    · subst hik
      rw [if_pos rfl, if_pos (by omega)]
    · rw [if_neg hik, upTo_get]
      by_cases hlt : i < k
      · rw [if_pos hlt, if_pos (by omega)]
      · rw [if_neg hlt, if_neg (by omega)]
theorem upTo_at {α : Type} (f : α → α) (xs : List α) (k : Nat) (hk : k < xs.length) : (upTo f xs k)[k]'(by rw [upTo_len]; exact hk) = xs[k] := by
  rw [upTo_get, if_neg (by omega)]
theorem flatO_xy (ps : List Po) : ∀ (k : Nat) (hk : k < ps.length) (x y : Int), ((flat Po.cells ps).set (k * 3) (.int .i8 x)).set (k * 3 + 1) (.int .i8 y) = flat Po.cells (ps.set k ⟨x, y, ps[k].s⟩) := by
  induction ps with
  | nil => intro k hk; simp at hk
  | cons f fs ih =>
    intro k hk x y
    cases k with
    | zero => simp [flat_cons, Po.cells]
    | succ k =>
      have := ih k (by simpa using hk) x y
      rw [show (k + 1) * 3 = k * 3 + 1 + 1 + 1 by omega, show k * 3 + 1 + 1 + 1 + 1 = k * 3 + 1 + 1 + 1 + 1 by rfl]
      simp only [List.set_cons_succ, flat_cons, Po.cells, List.cons_append, List.nil_append, List.getElem_cons_succ] at this ⊢
      rw [this]
theorem flatC_xy (ps : List Ce) : ∀ (k : Nat) (hk : k < ps.length) (x y : Int), ((flat Ce.cells ps).set (k * 2) (.int .i8 x)).set (k * 2 + 1) (.int .i8 y) = flat Ce.cells (ps.set k ⟨x, y⟩) := by
  induction ps with
  | nil => intro k hk; simp at hk
  | cons f fs ih =>
    intro k hk x y
    cases k with
    | zero => simp [flat_cons, Ce.cells]
    | succ k =>
      have := ih k (by simpa using hk) x y
      rw [show (k + 1) * 2 = k * 2 + 1 + 1 by omega, show k * 2 + 1 + 1 + 1 = k * 2 + 1 + 1 + 1 by rfl]
      simp only [List.set_cons_succ, flat_cons, Ce.cells, List.cons_append, List.nil_append] at this ⊢
      rw [this]
theorem own_put {w : World} {base g n cap z : Nat} {e : TypeId} {xs : List Value} (h : w.ownsRow base e z (.slice (some ⟨g, 0, none⟩) n cap) n xs) (j : Nat) (v : Value) :
    (w.setCell ⟨g, j, none⟩ v).ownsRow base e z (.slice (some ⟨g, 0, none⟩) n cap) n (xs.set j v) := (h.stored j v).1
theorem po_own {w : World} {base g n cap : Nat} {ps : List Po} (h : w.ownsRow base 127 3 (.slice (some ⟨g, 0, none⟩) n cap) n (flat Po.cells ps)) (hn : n = ps.length) (k : Nat) (hk : k < ps.length) :
    w.cell? ⟨g, k * 3, none⟩ = some (.int .i8 ps[k].x) ∧ w.cell? ⟨g, k * 3 + 1, none⟩ = some (.int .i8 ps[k].y) := by
  refine ⟨?_, ?_⟩
  · rw [h.cellAt (k * 3) (by omega)]
    exact flat_get Po.len ps k 0 hk (by omega)
  · rw [h.cellAt (k * 3 + 1) (by omega)]
    exact flat_get Po.len ps k 1 hk (by omega)
theorem ce_own {w : World} {base g n cap : Nat} {ps : List Ce} (h : w.ownsRow base 47 2 (.slice (some ⟨g, 0, none⟩) n cap) n (flat Ce.cells ps)) (hn : n = ps.length) (k : Nat) (hk : k < ps.length) :
    w.cell? ⟨g, k * 2, none⟩ = some (.int .i8 ps[k].x) ∧ w.cell? ⟨g, k * 2 + 1, none⟩ = some (.int .i8 ps[k].y) := by
  refine ⟨?_, ?_⟩
  · rw [h.cellAt (k * 2) (by omega)]
    exact flat_get Ce.len ps k 0 hk (by omega)
  · rw [h.cellAt (k * 2 + 1) (by omega)]
    exact flat_get Ce.len ps k 1 hk (by omega)
theorem own_posP {w : World} {base : Nat} {e : TypeId} {size n : Nat} {v : Value} {xs : List Value} (h : w.ownsRow base e size v n xs) (hn : 0 < n) : ∃ g cap, v = .slice (some ⟨g, 0, none⟩) n cap ∧ (base ≤ g ∧ g < w.heap.size) ∧ ∀ i, w.frozen? ⟨g, i, none⟩ = false := by
  obtain ⟨g, cap, rfl, h1, h2⟩ := own_posM h hn
  exact ⟨g, cap, rfl, ⟨h1, h2⟩, fun i => h.frozenAt i⟩
theorem own_set5 {w : World} {base b n size : Nat} {e : TypeId} {v : Value} {xs : List Value} (h : w.ownsRow base e size v n xs) (hne : ∀ q, v.ownBlock = some q → some q ≠ some b) (u0 u1 u2 u3 u4 : Value) :
    (((((w.setCell ⟨b, 0, none⟩ u0).setCell ⟨b, 1, none⟩ u1).setCell ⟨b, 2, none⟩ u2).setCell ⟨b, 3, none⟩ u3).setCell ⟨b, 4, none⟩ u4).ownsRow base e size v n xs :=
  own_kept (own_kept (own_kept (own_kept (own_kept h (grown_set1 _ b 0 u0) hne) (grown_set1 _ b 1 u1) hne) (grown_set1 _ b 2 u2) hne) (grown_set1 _ b 3 u3) hne) (grown_set1 _ b 4 u4) hne
theorem bl_set5 {a w : World} {b : Nat} (h : Below a.heap.size a w) (hb : a.heap.size ≤ b) (u0 u1 u2 u3 u4 : Value) :
    Below a.heap.size a (((((w.setCell ⟨b, 0, none⟩ u0).setCell ⟨b, 1, none⟩ u1).setCell ⟨b, 2, none⟩ u2).setCell ⟨b, 3, none⟩ u3).setCell ⟨b, 4, none⟩ u4) :=
  bl_set (bl_set (bl_set (bl_set (bl_set h hb u0) hb u1) hb u2) hb u3) hb u4
theorem grown_of_below {a b : World} (h : Below a.heap.size a b) (row : Option Nat) : a.grownBy b row := ⟨h.os, h.tape, h.output, h.size, fun k hk _ => h.block k hk⟩
/-- What of a moved machine is asked. -/
structure MvOk (m : Mc) (e d : Int) : Prop where
  he : 0 ≤ e ∧ e ≤ 10
  hd : 0 ≤ d ∧ d ≤ 10
  ok : m.ok
  v : vMc m = true
  ok2 : (mvM m m.bd.wd m.bd.hg e d).ok
  v2 : vMc (mvM m m.bd.wd m.bd.hg e d) = true
  inp : ∀ i (hi : i < m.bd.ps.length), ((0 ≤ m.bd.ps[i].x ∧ m.bd.ps[i].x ≤ 23) ∧ 0 ≤ m.bd.ps[i].y ∧ m.bd.ps[i].y ≤ 23) ∧ m.bd.ps[i].x + e < m.bd.wd ∧ m.bd.ps[i].y + d < m.bd.hg
  inI : ∀ i (hi : i < m.ins.length), (0 ≤ m.ins[i].x ∧ m.ins[i].x ≤ 23) ∧ 0 ≤ m.ins[i].y ∧ m.ins[i].y ≤ 23
  inO : ∀ i (hi : i < m.outs.length), (0 ≤ m.outs[i].x ∧ m.outs[i].x ≤ 23) ∧ 0 ≤ m.outs[i].y ∧ m.outs[i].y ≤ 23
  pos : 0 < m.bd.ps.length
set_option maxHeartbeats 3200000 in
theorem moveMachine_ok (m : Mc) (e d : Int) (v : Value) (w : World) (h : MVc w v m) (H : MvOk m e d) :
    Calls Tryz.prog 39 #[v, .int .i64 e, .int .i64 d] w fun r w' => ∃ s si so, r = .returned (.tuple #[mcv m.bd.wd m.bd.hg s si so, .int .i64 0]) ∧ OwnC w' w.heap.size s si so (mvM m m.bd.wd m.bd.hg e d) ∧ Below w.heap.size w w' := by
  obtain ⟨hvb, h60, hi1, hi6, ho1, ho8, -, -, -⟩ := vMc_parts m H.v
  obtain ⟨sa, scap, ia, icap, oa, ocap, rfl, hcap, hps, hins, houts⟩ := h
  have HMV : Hid (∀ u, Below w.heap.size w u → MVc u (mcv m.bd.wd m.bd.hg (.slice sa m.bd.ps.length scap) (.slice ia m.ins.length icap) (.slice oa m.outs.length ocap)) m) := Lib.hid (fun u hb => MVc.step ⟨sa, scap, ia, icap, oa, ocap, rfl, hcap, hps, hins, houts⟩ hb)
  have HPV : Hid (∀ u, Below w.heap.size w u → PV u (.slice sa m.bd.ps.length scap) m.bd.ps) := Lib.hid (fun u hb => ⟨sa, scap, rfl, (hps.below hb (Nat.le_refl _)).mono hb.size⟩)
  have HMM : Hid (∀ u, Below w.heap.size w u → MV u (mcv m.bd.wd m.bd.hg (.slice sa m.bd.ps.length scap) (.slice ia m.ins.length icap) (.slice oa m.outs.length ocap)) m) := Lib.hid (fun u hb => ⟨_, _, _, rfl, ⟨sa, scap, rfl, (hps.below hb (Nat.le_refl _)).mono hb.size⟩, ⟨ia, icap, rfl, (hins.below hb (Nat.le_refl _)).mono hb.size⟩, ⟨oa, ocap, rfl, (houts.below hb (Nat.le_refl _)).mono hb.size⟩⟩)
  obtain ⟨W1, hW1⟩ : ∃ W1, W1 = w.alloc (.cells #[.int .i8 m.bd.wd, .int .i8 m.bd.hg, .slice sa m.bd.ps.length scap, .slice ia m.ins.length icap, .slice oa m.outs.length ocap] 55) := ⟨_, rfl⟩
  obtain ⟨W2, hW2⟩ : ∃ W2, W2 = W1.alloc (.cells #[.int .i8 0, .int .i8 0, .slice none 0 0, .slice none 0 0, .slice none 0 0] 55) := ⟨_, rfl⟩
  have hz1 : W1.heap.size = w.heap.size + 1 := by rw [hW1]; simp
  have hz2 : W2.heap.size = w.heap.size + 2 := by rw [hW2]; simp [hz1]
  have B01 : Below w.heap.size w W1 := by rw [hW1]; exact bl_alloc (Below.refl _ _)
  have B12 : Below W1.heap.size W1 W2 := by rw [hW2]; exact bl_alloc (Below.refl _ _)
  have q3 : W2.heap[w.heap.size]? = some (.cells #[.int .i8 m.bd.wd, .int .i8 m.bd.hg, .slice sa m.bd.ps.length scap, .slice ia m.ins.length icap, .slice oa m.outs.length ocap] 55 (0, 0)) := by
    rw [B12.block w.heap.size (by omega), hW1]
    exact heap_alloc_new _ _
  have q6 : W2.heap[w.heap.size + 1]? = some (.cells #[.int .i8 0, .int .i8 0, .slice none 0 0, .slice none 0 0, .slice none 0 0] 55 (0, 0)) := by
    rw [hW2, ← hz1]
    exact heap_alloc_new _ _
  have HB02 := Lib.hid (bl_trans B01 B12)
  have HVM := Lib.hid (validMachine_any m _ W2 (HMV.out W2 HB02.out) H.ok (by omega) (by omega) (by omega))
  have HV := Lib.hid H.v
  have HZ2 := Lib.hid hz2
  obtain ⟨x0, x1, x2, x3, x4, -⟩ := five_cells q3
  have HQ3 := Lib.hid q3
  have HQ6 := Lib.hid q6
  have HH := Lib.hid H
  clear B01 B12 hz1 hz2 q3 q6 hps hins houts H hcap hvb
  go_enter Tryz.func39, Tryz.ntmps39
  go_upto_region 1 with fail
  rw [← hW1, ← hW2]
  clear hW1 hW2
  go_wp2_with fail
  refine HVM.out.mono ?_
  rintro r W3 ⟨rfl, hb3⟩
  rw [HV.out]
  have HB03 := Lib.hid (bl_trans HB02.out hb3)
  have hzW2 := HZ2.out
  have q3 := (hb3.block w.heap.size (by omega)).trans HQ3.out
  have q6 := (hb3.block (w.heap.size + 1) (by omega)).trans HQ6.out
  have z3 : w.heap.size + 2 ≤ W3.heap.size := by have := hb3.size; omega
  have HZ3 := Lib.hid z3
  clear x0 x1 x2 x3 x4 hb3 HVM HQ3 HQ6 HB02 HV hzW2 z3
  obtain ⟨x0, x1, x2, x3, x4, -⟩ := five_cells q3
  have HQ3 := Lib.hid q3
  have HQ6 := Lib.hid q6
  have HMB := Lib.hid (moveBoard_ok m.bd.wd m.bd.hg _ m.bd.ps e d W3 (HPV.out W3 HB03.out) HH.out.ok.1 (vMc_parts m HH.out.v).1 h60 HH.out.he HH.out.hd HH.out.pos HH.out.inp)
  clear q3 q6
  go_wp2_with fail
  refine HMB.out.mono ?_
  rintro r W4 ⟨v8, rfl, hown8, hb4⟩
  obtain ⟨g8, gc8, rfl, ⟨hg3, hg4⟩, -⟩ := own_posP hown8 HH.out.pos
  have hb45 : Below W4.heap.size W4 (W4.alloc (.cells #[.int .i8 m.bd.wd, .int .i8 m.bd.hg, .slice (some ⟨g8, 0, none⟩) m.bd.ps.length gc8] 27)) := bl_alloc (Below.refl _ _)
  have q8 : (W4.alloc (.cells #[.int .i8 m.bd.wd, .int .i8 m.bd.hg, .slice (some ⟨g8, 0, none⟩) m.bd.ps.length gc8] 27)).heap[W4.heap.size]? = some (.cells #[.int .i8 m.bd.wd, .int .i8 m.bd.hg, .slice (some ⟨g8, 0, none⟩) m.bd.ps.length gc8] 27 (0, 0)) := heap_alloc_new _ _
  have z5 : (W4.alloc (.cells #[.int .i8 m.bd.wd, .int .i8 m.bd.hg, .slice (some ⟨g8, 0, none⟩) m.bd.ps.length gc8] 27)).heap.size = W4.heap.size + 1 := by simp
  obtain ⟨b8, hb8⟩ : ∃ b8, b8 = W4.heap.size := ⟨_, rfl⟩
  obtain ⟨W5, hW5⟩ : ∃ W5, W5 = W4.alloc (.cells #[.int .i8 m.bd.wd, .int .i8 m.bd.hg, .slice (some ⟨g8, 0, none⟩) m.bd.ps.length gc8] 27) := ⟨_, rfl⟩
  have hb35 := bl_trans hb4 hb45
  have hO8 := own_below hown8 hb45 (Nat.le_refl _)
  rw [← hW5] at hb35 hO8 q8 z5
  rw [← hb8] at q8
  have z4 : W3.heap.size ≤ W4.heap.size := hb4.size
  have z3 := HZ3.out
  have q3 := (hb35.block w.heap.size (by omega)).trans HQ3.out
  have q6 := (hb35.block (w.heap.size + 1) (by omega)).trans HQ6.out
  have HB05 := Lib.hid (bl_trans HB03.out hb35)
  have HO8 := Lib.hid hO8
  have h8 : W3.heap.size ≤ g8 ∧ g8 < b8 ∧ b8 + 1 = W5.heap.size ∧ w.heap.size + 2 ≤ W3.heap.size := ⟨hg3, by omega, by omega, by omega⟩
  have H8 := Lib.hid h8
  have HCM := Lib.hid (cloneMachine_any m _ W5 (HMM.out W5 HB05.out) (by omega) (by omega) (by omega))
  clear x0 x1 x2 x3 x4 hb35 hb45 hb4 hown8 HB03 HQ3 HQ6 HMB HZ3 hO8 z4 z3 h8 hg3 hg4 z5
  obtain ⟨x0, x1, x2, x3, x4, -⟩ := five_cells q3
  have HQ6 := Lib.hid q6
  have HQ8 := Lib.hid q8
  clear q3 q6 q8
  go_upto_region 4 with fail
  rw [← hW5, ← hb8]
  clear hW5 hb8
  go_wp2_with fail
  refine HCM.out.mono ?_
  rintro r W6 ⟨s1, si, so, rfl, hown, hb6⟩
  obtain ⟨hos, hoi, hoo, -, -, hap⟩ := hown
  obtain ⟨gs, gsc, rfl, -, -⟩ := own_posP hos HH.out.pos
  obtain ⟨gi, ci, rfl, ⟨hgi1, hgi2⟩, -⟩ := own_posP hoi (by omega)
  obtain ⟨go, co, rfl, ⟨hgo1, hgo2⟩, -⟩ := own_posP hoo (by omega)
  have hne : gi ≠ go := fun e => hap.1 gi rfl (by rw [e]; rfl)
  obtain ⟨W7, hW7⟩ : ∃ W7, W7 = W6.alloc (.cells #[.int .i8 m.bd.wd, .int .i8 m.bd.hg, .slice (some ⟨gs, 0, none⟩) m.bd.ps.length gsc, .slice (some ⟨gi, 0, none⟩) m.ins.length ci, .slice (some ⟨go, 0, none⟩) m.outs.length co] 55) := ⟨_, rfl⟩
  obtain ⟨b10, hb10⟩ : ∃ b10, b10 = W6.heap.size := ⟨_, rfl⟩
  have hb67 : Below W6.heap.size W6 W7 := by rw [hW7]; exact bl_alloc (Below.refl _ _)
  have q10 : W7.heap[b10]? = some (.cells #[.int .i8 m.bd.wd, .int .i8 m.bd.hg, .slice (some ⟨gs, 0, none⟩) m.bd.ps.length gsc, .slice (some ⟨gi, 0, none⟩) m.ins.length ci, .slice (some ⟨go, 0, none⟩) m.outs.length co] 55 (0, 0)) := by rw [hb10, hW7]; exact heap_alloc_new _ _
  have hb57 := bl_trans hb6 hb67
  have h8 := H8.out
  have z56 := hb6.size
  have h6 : W5.heap.size ≤ gi ∧ gi < b10 ∧ W5.heap.size ≤ go ∧ go < b10 ∧ g8 < b8 ∧ b8 < W5.heap.size ∧ w.heap.size + 2 ≤ g8 ∧ w.heap.size + 2 ≤ W3.heap.size := by omega
  have q6 := (hb57.block (w.heap.size + 1) (by omega)).trans HQ6.out
  have q8 := (hb57.block b8 (by omega)).trans HQ8.out
  have HB07 := Lib.hid (bl_trans HB05.out hb57)
  have HOI := Lib.hid (own_below hoi hb67 (Nat.le_refl _))
  have HOO := Lib.hid (own_below hoo hb67 (Nat.le_refl _))
  have HO8' := Lib.hid (own_below HO8.out hb57 (Nat.le_refl _))
  have H6 := Lib.hid h6
  have HNE := Lib.hid hne
  clear x0 x1 x2 x3 x4 hos hoi hoo hap hgi1 hgi2 hgo1 hgo2 hb67 hb57 hb6 HB05 HQ6 HQ8 HO8 HCM H8 h8 z56 h6 hne
  obtain ⟨y0, y1, y2, -⟩ := three_cells q8
  obtain ⟨x0, x1, x2, x3, x4, f0, f1, f2, f3, f4⟩ := five_cells q10
  go_upto_region 7 with fail
  rw [← hW7, ← hb10]
  clear hW7 hb10
  go_upto_region 8 with fail
  have q10' := set_block (set_block (set_block q10 0 (.int .i8 m.bd.wd)) 1 (.int .i8 m.bd.hg)) 2 (.slice (some ⟨g8, 0, none⟩) m.bd.ps.length gc8)
  have h6 := H6.out
  have hg78 := grown_trans (grown_trans (grown_set1 W7 b10 0 (.int .i8 m.bd.wd)) (grown_set1 _ b10 1 (.int .i8 m.bd.hg))) (grown_set1 _ b10 2 (.slice (some ⟨g8, 0, none⟩) m.bd.ps.length gc8))
  obtain ⟨W8, hW8⟩ : ∃ W8, W8 = ((W7.setCell ⟨b10, 0, none⟩ (.int .i8 m.bd.wd)).setCell ⟨b10, 1, none⟩ (.int .i8 m.bd.hg)).setCell ⟨b10, 2, none⟩ (.slice (some ⟨g8, 0, none⟩) m.bd.ps.length gc8) := ⟨_, rfl⟩
  rw [← hW8] at q10' hg78 ⊢
  have hQ10 : Hid (W8.heap[b10]? = some (.cells #[.int .i8 m.bd.wd, .int .i8 m.bd.hg, .slice (some ⟨g8, 0, none⟩) m.bd.ps.length gc8, .slice (some ⟨gi, 0, none⟩) m.ins.length ci, .slice (some ⟨go, 0, none⟩) m.outs.length co] 55 (0, 0))) := Lib.hid q10'
  have hlt10 := lt_of_block q10'
  have HQ6 := Lib.hid (blk_kept q6 hg78 (by simp; omega))
  have HOI8 := Lib.hid (own_kept HOI.out hg78 (fun k hk e => by cases hk; simp at e; omega))
  have HOO8 := Lib.hid (own_kept HOO.out hg78 (fun k hk e => by cases hk; simp at e; omega))
  have HO88 := Lib.hid (own_kept HO8'.out hg78 (fun k hk e => by cases hk; simp at e; omega))
  have HB08 := Lib.hid (bl_grown HB07.out hg78 (fun k hk => by cases hk; omega))
  clear hW8 q10 q10' q6 q8 hg78 x0 x1 x2 x3 x4 f0 f1 f2 f3 f4 y0 y1 y2 HOI HOO HO8' HB07
  have HN1 : Hid (gi ≠ b10 ∧ go ≠ b10 ∧ gi < W8.heap.size ∧ go < W8.heap.size ∧ g8 < W8.heap.size ∧ w.heap.size + 1 < W8.heap.size) := Lib.hid (by omega)
  obtain ⟨x0, x1, x2, x3, x4, -⟩ := five_cells hQ10.out
  clear h6
  go_wp2_with fail
  clear x0 x1 x2 x3 x4
  go_loopw [36] (fun i wr => ∃ k : Nat, k ≤ m.ins.length ∧ i = .int .i64 (k : Int) ∧ W8.grownBy wr (some gi) ∧ wr.ownsRow W5.heap.size 127 3 (.slice (some ⟨gi, 0, none⟩) m.ins.length ci) m.ins.length (flat Po.cells (upTo (mvPo e d) m.ins k)) ∧ Below w.heap.size w wr) (fun i _ => m.ins.length - (intOf i).toNat)
  case atStart => exact ⟨0, by omega, rfl, World.grownBy.refl _ _, by rw [upTo_zero]; exact HOI8.out, HB08.out⟩
  case round =>
    obtain ⟨k, hk, rfl, hgr, hown, hbw⟩ := hrel
    obtain ⟨V1, hV1⟩ : ∃ V1, V1 = wr := ⟨_, rfl⟩
    subst hV1
    have h6 := H6.out
    have hn1 := HN1.out
    have q10 := blk_kept hQ10.out hgr (by simp; omega)
    have HGR := Lib.hid hgr
    have HOW := Lib.hid hown
    have HBW := Lib.hid hbw
    have hzV : W8.heap.size ≤ V1.heap.size := hgr.size
    clear hgr hown hbw
    by_cases hlt : (k : Int) < (m.ins.length : Int)
    · have hlt' : k < m.ins.length := by omega
      obtain ⟨c0, c1⟩ := po_own HOW.out (upTo_len _ _ k).symm k (by rw [upTo_len]; exact hlt')
      rw [upTo_at _ _ k hlt'] at c0 c1
      obtain ⟨P, hP⟩ : ∃ P, P = m.ins[k] := ⟨_, rfl⟩
      have hinP : (0 ≤ P.x ∧ P.x ≤ 23) ∧ 0 ≤ P.y ∧ P.y ≤ 23 := by rw [hP]; exact HH.out.inI k hlt'
      rw [← hP] at c0 c1
      have HPP := Lib.hid hP
      clear hP
      obtain ⟨x0, x1, x2, x3, x4, -⟩ := five_cells q10
      clear q10 h6
      go_upto_region 11 with fail
      refine wp_region_T 0 14 (fun w' => w'.cell? ⟨b10, 3, none⟩ = some (.slice (some ⟨gi, 0, none⟩) m.ins.length ci) ∧ w'.cell? ⟨gi, k * 3, none⟩ = some (.int .i8 P.x) ∧ w'.cell? ⟨gi, k * 3 + 1, none⟩ = some (.int .i8 P.y)) (by kernel_rfl) ⟨x3, c0, c1⟩ (fun hHeld => ?_)
      have hbd : Below V1.heap.size V1 V1.drew := bl_drew (Below.refl _ _)
      obtain ⟨Y0, hY0⟩ : ∃ Y, Y = V1.drew := ⟨_, rfl⟩
      have HSH := Lib.hid (shifted_any ⟨P.x, P.y⟩ e d HH.out.he HH.out.hd hinP Y0)
      have HOW0 := Lib.hid (own_below HOW.out hbd (Nat.le_refl _))
      have HGR0 := Lib.hid (grown_trans HGR.out (show V1.grownBy V1.drew (some gi) from ⟨rfl, rfl, rfl, Nat.le_refl _, fun _ _ _ => rfl⟩))
      have HBW0 := Lib.hid (bl_trans HBW.out hbd)
      rw [← hY0] at hHeld HOW0 HGR0 HBW0 ⊢
      have HZY : Hid (V1.heap.size ≤ Y0.heap.size) := Lib.hid (by rw [hY0]; exact Nat.le_refl _)
      clear hY0 hbd x0 x1 x2 x3 x4 c0 c1 HGR HOW HBW
      (refine' wpAnyT_take 12 0 (oi := ?oi1) (v := ?v1) ?hi1 (by kernel_rfl) (by kernel_rfl) (by kernel_rfl) (by kernel_rfl) (by kernel_rfl) (by kernel_rfl) ?hQ1 ?hy1 (by assumption) ?rest1; (case hi1 => simp only [List.getElem?_toArray, List.getElem?_cons_zero, List.getElem?_cons_succ]; rfl); (case hQ1 => exact fun _ _ _ h => h); (case hy1 => refine Or.inl ⟨by rfl, ?_⟩; intro wz hSw; (try dsimp only at hSw); go_simp; try with_reducible rfl); try simp only [Act.put, List.setIfInBounds_toArray, List.set_cons_zero, List.set_cons_succ])
      (refine' wpAnyT_take 12 1 (oi := ?oi2) (v := ?v2) ?hi2 (by kernel_rfl) (by kernel_rfl) (by kernel_rfl) (by kernel_rfl) (by kernel_rfl) (by kernel_rfl) ?hQ2 ?hy2 (by assumption) ?rest2; (case hi2 => simp only [List.getElem?_toArray, List.getElem?_cons_zero, List.getElem?_cons_succ]; rfl); (case hQ2 => exact fun _ _ _ h => h); (case hy2 => refine Or.inl ⟨by rfl, ?_⟩; intro wz hSw; (try dsimp only at hSw); go_simp; try with_reducible rfl); try simp only [Act.put, List.setIfInBounds_toArray, List.set_cons_zero, List.set_cons_succ])
      (refine' wpAnyT_take 12 2 (oi := ?oi3) (v := ?v3) ?hi3 (by kernel_rfl) (by kernel_rfl) (by kernel_rfl) (by kernel_rfl) (by kernel_rfl) (by kernel_rfl) ?hQ3 ?hy3 (by assumption) ?rest3; (case hi3 => simp only [List.getElem?_toArray, List.getElem?_cons_zero, List.getElem?_cons_succ]; rfl); (case hQ3 => exact fun _ _ _ h => h); (case hy3 => refine Or.inl ⟨by rfl, ?_⟩; intro wz hSw; (try dsimp only at hSw); go_simp; try with_reducible rfl); try simp only [Act.put, List.setIfInBounds_toArray, List.set_cons_zero, List.set_cons_succ])
      (refine' wpAnyT_take 12 3 (oi := ?oi4) (v := ?v4) ?hi4 (by kernel_rfl) (by kernel_rfl) (by kernel_rfl) (by kernel_rfl) (by kernel_rfl) (by kernel_rfl) ?hQ4 ?hy4 (by assumption) ?rest4; (case hi4 => simp only [List.getElem?_toArray, List.getElem?_cons_zero, List.getElem?_cons_succ]; rfl); (case hQ4 => exact fun _ _ _ h => h); (case hy4 => refine Or.inl ⟨by rfl, ?_⟩; intro wz hSw; (try dsimp only at hSw); go_simp; try with_reducible rfl); try simp only [Act.put, List.setIfInBounds_toArray, List.set_cons_zero, List.set_cons_succ])
      (refine' wpAnyT_take 12 4 (oi := ?oi5) (v := ?v5) ?hi5 (by kernel_rfl) (by kernel_rfl) (by kernel_rfl) (by kernel_rfl) (by kernel_rfl) (by kernel_rfl) ?hQ5 ?hy5 (by assumption) ?rest5; (case hi5 => simp only [List.getElem?_toArray, List.getElem?_cons_zero, List.getElem?_cons_succ]; rfl); (case hQ5 => exact fun _ _ _ h => h); (case hy5 => refine Or.inl ⟨by rfl, ?_⟩; intro wz hSw; (try dsimp only at hSw); go_simp; try with_reducible rfl); try simp only [Act.put, List.setIfInBounds_toArray, List.set_cons_zero, List.set_cons_succ])
      (refine' wpAnyT_take 12 5 (oi := ?oi6) (v := ?v6) ?hi6 (by kernel_rfl) (by kernel_rfl) (by kernel_rfl) (by kernel_rfl) (by kernel_rfl) (by kernel_rfl) ?hQ6 ?hy6 (by assumption) ?rest6; (case hi6 => simp only [List.getElem?_toArray, List.getElem?_cons_zero, List.getElem?_cons_succ]; rfl); (case hQ6 => exact fun _ _ _ h => h); (case hy6 => refine Or.inl ⟨by rfl, ?_⟩; intro wz hSw; (try dsimp only at hSw); go_simp; try with_reducible rfl); try simp only [Act.put, List.setIfInBounds_toArray, List.set_cons_zero, List.set_cons_succ])
      (refine' wpAnyT_take 12 6 (oi := ?oi7) (v := ?v7) ?hi7 (by kernel_rfl) (by kernel_rfl) (by kernel_rfl) (by kernel_rfl) (by kernel_rfl) (by kernel_rfl) ?hQ7 ?hy7 (by assumption) ?rest7; (case hi7 => simp only [List.getElem?_toArray, List.getElem?_cons_zero, List.getElem?_cons_succ]; rfl); (case hQ7 => exact fun _ _ _ h => h); (case hy7 => refine Or.inl ⟨by rfl, ?_⟩; intro wz hSw; (try dsimp only at hSw); go_simp; try with_reducible rfl); try simp only [Act.put, List.setIfInBounds_toArray, List.set_cons_zero, List.set_cons_succ])
      (refine' wpAnyT_take 12 7 (oi := ?oi8) (v := ?v8) ?hi8 (by kernel_rfl) (by kernel_rfl) (by kernel_rfl) (by kernel_rfl) (by kernel_rfl) (by kernel_rfl) ?hQ8 ?hy8 (by assumption) ?rest8; (case hi8 => simp only [List.getElem?_toArray, List.getElem?_cons_zero, List.getElem?_cons_succ]; rfl); (case hQ8 => exact fun _ _ _ h => h); (case hy8 => refine Or.inl ⟨by rfl, ?_⟩; intro wz hSw; (try dsimp only at hSw); go_simp; try with_reducible rfl); try simp only [Act.put, List.setIfInBounds_toArray, List.set_cons_zero, List.set_cons_succ])
      (refine' wpAnyT_take 12 8 (oi := ?oi9) (v := ?v9) ?hi9 (by kernel_rfl) (by kernel_rfl) (by kernel_rfl) (by kernel_rfl) (by kernel_rfl) (by kernel_rfl) ?hQ9 ?hy9 (by assumption) ?rest9; (case hi9 => simp only [List.getElem?_toArray, List.getElem?_cons_zero, List.getElem?_cons_succ]; rfl); (case hQ9 => exact fun _ _ _ h => h); (case hy9 => refine Or.inl ⟨by rfl, ?_⟩; intro wz hSw; (try dsimp only at hSw); go_simp; try with_reducible rfl); try simp only [Act.put, List.setIfInBounds_toArray, List.set_cons_zero, List.set_cons_succ])
      (refine' wpAnyT_take 12 9 (oi := ?oi10) (v := ?v10) ?hi10 (by kernel_rfl) (by kernel_rfl) (by kernel_rfl) (by kernel_rfl) (by kernel_rfl) (by kernel_rfl) ?hQ10 ?hy10 (by assumption) ?rest10; (case hi10 => simp only [List.getElem?_toArray, List.getElem?_cons_zero, List.getElem?_cons_succ]; rfl); (case hQ10 => exact fun _ _ _ h => h); (case hy10 => refine Or.inl ⟨by rfl, ?_⟩; intro wz hSw; (try dsimp only at hSw); go_simp; try with_reducible rfl); try simp only [Act.put, List.setIfInBounds_toArray, List.set_cons_zero, List.set_cons_succ])
      (refine' wpAnyT_take 12 10 (oi := ?oi11) (v := ?v11) ?hi11 (by kernel_rfl) (by kernel_rfl) (by kernel_rfl) (by kernel_rfl) (by kernel_rfl) (by kernel_rfl) ?hQ11 ?hy11 (by assumption) ?rest11; (case hi11 => simp only [List.getElem?_toArray, List.getElem?_cons_zero, List.getElem?_cons_succ]; rfl); (case hQ11 => exact fun _ _ _ h => h); (case hy11 => refine Or.inl ⟨by rfl, ?_⟩; intro wz hSw; (try dsimp only at hSw); go_simp; try with_reducible rfl); try simp only [Act.put, List.setIfInBounds_toArray, List.set_cons_zero, List.set_cons_succ])
      refine wpAnyT_ready (rs := [11]) (by kernel_rfl) (by simp) ?_
      (refine' AllReadyT.cons (o := ?o25) ?ho25 (fun K hK => ?step25) AllReadyT.nil; (case ho25 => simp only [List.getElem?_toArray, List.getElem?_cons_zero, List.getElem?_cons_succ]; rfl))
      go_simp
      refine HSH.out.mono ?_
      rintro r Y1 ⟨rfl, hb01⟩
      obtain ⟨hc01, hf01⟩ := bcell hb01
      have hn1 := HN1.out
      have hzV2 := HZY.out
      have S1 : Y1.cell? ⟨b10, 3, none⟩ = some (.slice (some ⟨gi, 0, none⟩) m.ins.length ci) ∧ Y1.cell? ⟨gi, k * 3, none⟩ = some (.int .i8 P.x) ∧ Y1.cell? ⟨gi, k * 3 + 1, none⟩ = some (.int .i8 P.y) := ⟨by rw [hc01 _ _ (by omega)]; exact hHeld.1, by rw [hc01 _ _ (by omega)]; exact hHeld.2.1, by rw [hc01 _ _ (by omega)]; exact hHeld.2.2⟩
      refine hK.out _ _ (fun _ _ => S1) (fun hHd => ?_)
      have hHeld2 := hHd (by decide) (by decide)
      have HOW1 := Lib.hid (own_below HOW0.out hb01 (Nat.le_refl _))
      have HGR1 := Lib.hid (grown_trans HGR0.out (grown_of_below hb01 (some gi)))
      have HBW1 := Lib.hid (bl_trans HBW0.out hb01)
      clear hK K hHd hHeld S1 HOW0 HGR0 HBW0 HSH hb01
      try simp only [Act.put, List.setIfInBounds_toArray, List.set_cons_zero, List.set_cons_succ]
      obtain ⟨x3, c0, c1⟩ := id hHeld2
      have hHeld := hHeld2
      (refine' wpAnyT_take 12 12 (oi := ?oi12) (v := ?v12) ?hi12 (by kernel_rfl) (by kernel_rfl) (by kernel_rfl) (by kernel_rfl) (by kernel_rfl) (by kernel_rfl) ?hQ12 ?hy12 (by assumption) ?rest12; (case hi12 => simp only [List.getElem?_toArray, List.getElem?_cons_zero, List.getElem?_cons_succ]; rfl); (case hQ12 => exact fun _ _ _ h => h); (case hy12 => refine Or.inl ⟨by rfl, ?_⟩; intro wz hSw; (try dsimp only at hSw); go_simp; try with_reducible rfl); try simp only [Act.put, List.setIfInBounds_toArray, List.set_cons_zero, List.set_cons_succ])
      (refine' wpAnyT_take 12 13 (oi := ?oi13) (v := ?v13) ?hi13 (by kernel_rfl) (by kernel_rfl) (by kernel_rfl) (by kernel_rfl) (by kernel_rfl) (by kernel_rfl) ?hQ13 ?hy13 (by assumption) ?rest13; (case hi13 => simp only [List.getElem?_toArray, List.getElem?_cons_zero, List.getElem?_cons_succ]; rfl); (case hQ13 => exact fun _ _ _ h => h); (case hy13 => refine Or.inl ⟨by rfl, ?_⟩; intro wz hSw; (try dsimp only at hSw); go_simp; try with_reducible rfl); try simp only [Act.put, List.setIfInBounds_toArray, List.set_cons_zero, List.set_cons_succ])
      have d0 : Y1.frozen? ⟨gi, k * 3, none⟩ = false := HOW1.out.frozenAt _
      have d1 : Y1.frozen? ⟨gi, k * 3 + 1, none⟩ = false := HOW1.out.frozenAt _
      refine wpAnyT_ready (rs := [14]) (by kernel_rfl) (by simp) ?_
      (refine' AllReadyT.cons (o := ?o26) ?ho26 (fun K hK => ?step26) AllReadyT.nil; (case ho26 => simp only [List.getElem?_toArray, List.getElem?_cons_zero, List.getElem?_cons_succ]; rfl))
      go_simp
      refine hK.out _ _ (fun _ h => absurd h (by decide)) (fun _ => ?_)
      clear hK K
      try simp only [Act.put, List.setIfInBounds_toArray, List.set_cons_zero, List.set_cons_succ]
      refine wpAnyT_done (by kernel_rfl) ?_ _
      have hown8 := own_put (own_put HOW1.out (k * 3) (.int .i8 (P.x + e))) (k * 3 + 1) (.int .i8 (P.y + d))
      rw [flatO_xy _ k (by rw [upTo_len]; exact hlt')] at hown8
      have hset : (upTo (mvPo e d) m.ins k).set k ⟨P.x + e, P.y + d, ((upTo (mvPo e d) m.ins k)[k]'(by rw [upTo_len]; exact hlt')).s⟩ = upTo (mvPo e d) m.ins (k + 1) := by
        rw [upTo_succ _ _ k hlt']
        congr 1
        rw [upTo_at _ _ k hlt', HPP.out]
        rfl
      rw [hset] at hown8
      have HO8 := Lib.hid hown8
      have HG8 := Lib.hid (grown_trans (grown_trans HGR1.out (grown_set1 Y1 gi (k * 3) (.int .i8 (P.x + e)))) (grown_set1 _ gi (k * 3 + 1) (.int .i8 (P.y + d))))
      have hgw : w.heap.size ≤ gi := by have := H6.out; omega
      have HB8 := Lib.hid (bl_set (bl_set HBW1.out (p := ⟨gi, k * 3, none⟩) hgw (.int .i8 (P.x + e))) (p := ⟨gi, k * 3 + 1, none⟩) hgw (.int .i8 (P.y + d)))
      clear hset hown8 x3 c0 c1 d0 d1 HOW1 HGR1 HBW1 hHeld hHeld2 hc01 hf01
      go_wp2_with fail
      go_roundw
      case rel => exact ⟨k + 1, by omega, by go_num, HG8.out, HO8.out, HB8.out⟩
      case measure => simp [intOf]; omega
    · have hkl : k = m.ins.length := by omega
      subst hkl
      have q10b := q10
      obtain ⟨x0, x1, x2, x3, x4, -⟩ := five_cells q10b
      have HQ10b := Lib.hid q10
      have HNE2 : Hid (∀ q, (Value.slice (some ⟨gi, 0, none⟩) m.ins.length ci).ownBlock = some q → some q ≠ some go) := Lib.hid (fun q hq e => by have h9 : some gi = some q := hq; cases h9; simp at e; exact HNE.out e)
      have HNE8 : Hid (∀ q, (Value.slice (some ⟨g8, 0, none⟩) m.bd.ps.length gc8).ownBlock = some q → some q ≠ some go ∧ some q ≠ some gi ∧ some q ≠ some (w.heap.size + 1)) := Lib.hid (fun q hq => by have h9 : some g8 = some q := hq; cases h9; refine ⟨fun e => ?_, fun e => ?_, fun e => ?_⟩ <;> (simp at e; omega))
      have HOI9 := HOW
      have HOO9 := Lib.hid (own_kept HOO8.out HGR.out (fun q hq e => by have h9 : some go = some q := hq; cases h9; simp at e; exact HNE.out e.symm))
      have HO89 := Lib.hid (own_kept HO88.out HGR.out (fun q hq => (HNE8.out q hq).2.1))
      have HQ69 := Lib.hid (blk_kept HQ6.out HGR.out (by simp; omega))
      have HBW9 := HBW
      have HZV9 : Hid (go < V1.heap.size ∧ b10 < V1.heap.size ∧ go ≠ b10 ∧ w.heap.size + 1 < go ∧ gi < V1.heap.size) := Lib.hid (by omega)
      obtain ⟨V9, hV9⟩ : ∃ V9, V9 = V1 := ⟨_, rfl⟩
      have HGRx := HGR
      have HN1x := HN1
      clear q10 q10b h6
      go_wp2_with fail
      clear x0 x1 x2 x3 x4 HOI8 HOO8 HO88 HQ6 HB08 HGR HOW HBW HN1 hn1 hzV hlt hk
      subst hV9
      go_loopw [57] (fun i wr => ∃ k : Nat, k ≤ m.outs.length ∧ i = .int .i64 (k : Int) ∧ V9.grownBy wr (some go) ∧ wr.ownsRow W5.heap.size 47 2 (.slice (some ⟨go, 0, none⟩) m.outs.length co) m.outs.length (flat Ce.cells (upTo (mvC e d) m.outs k)) ∧ Below w.heap.size w wr) (fun i _ => m.outs.length - (intOf i).toNat)
      case atStart => exact ⟨0, by omega, rfl, World.grownBy.refl _ _, by rw [upTo_zero]; exact HOO9.out, HBW9.out⟩
      case round =>
        obtain ⟨k, hk, rfl, hgr, hown, hbw⟩ := hrel
        obtain ⟨V1, hV1⟩ : ∃ V1, V1 = wr := ⟨_, rfl⟩
        subst hV1
        have hz9 := HZV9.out
        have q10 := blk_kept HQ10b.out hgr (by simp; omega)
        have HGR := Lib.hid hgr
        have HOW := Lib.hid hown
        have HBW := Lib.hid hbw
        have hzV : V9.heap.size ≤ V1.heap.size := hgr.size
        clear hgr hown hbw
        by_cases hlt : (k : Int) < (m.outs.length : Int)
        · have hlt' : k < m.outs.length := by omega
          obtain ⟨c0, c1⟩ := ce_own HOW.out (upTo_len _ _ k).symm k (by rw [upTo_len]; exact hlt')
          rw [upTo_at _ _ k hlt'] at c0 c1
          obtain ⟨P, hP⟩ : ∃ P, P = m.outs[k] := ⟨_, rfl⟩
          have hinP : (0 ≤ P.x ∧ P.x ≤ 23) ∧ 0 ≤ P.y ∧ P.y ≤ 23 := by rw [hP]; exact HH.out.inO k hlt'
          rw [← hP] at c0 c1
          have HPP := Lib.hid hP
          clear hP
          obtain ⟨x0, x1, x2, x3, x4, -⟩ := five_cells q10
          clear q10
          go_upto_region 16 with fail
          refine wp_region_T 0 12 (fun w' => w'.cell? ⟨b10, 4, none⟩ = some (.slice (some ⟨go, 0, none⟩) m.outs.length co) ∧ w'.cell? ⟨go, k * 2, none⟩ = some (.int .i8 P.x) ∧ w'.cell? ⟨go, k * 2 + 1, none⟩ = some (.int .i8 P.y)) (by kernel_rfl) ⟨x4, c0, c1⟩ (fun hHeld => ?_)
          have hbd : Below V1.heap.size V1 V1.drew := bl_drew (Below.refl _ _)
          obtain ⟨Y0, hY0⟩ : ∃ Y, Y = V1.drew := ⟨_, rfl⟩
          have HSH := Lib.hid (shifted_any ⟨P.x, P.y⟩ e d HH.out.he HH.out.hd hinP Y0)
          have HOW0 := Lib.hid (own_below HOW.out hbd (Nat.le_refl _))
          have HGR0 := Lib.hid (grown_trans HGR.out (show V1.grownBy V1.drew (some go) from ⟨rfl, rfl, rfl, Nat.le_refl _, fun _ _ _ => rfl⟩))
          have HBW0 := Lib.hid (bl_trans HBW.out hbd)
          rw [← hY0] at hHeld HOW0 HGR0 HBW0 ⊢
          have HZY : Hid (V1.heap.size ≤ Y0.heap.size) := Lib.hid (by rw [hY0]; exact Nat.le_refl _)
          clear hY0 hbd x0 x1 x2 x3 x4 c0 c1 HGR HOW HBW
          (refine' wpAnyT_take 12 0 (oi := ?oi14) (v := ?v14) ?hi14 (by kernel_rfl) (by kernel_rfl) (by kernel_rfl) (by kernel_rfl) (by kernel_rfl) (by kernel_rfl) ?hQ14 ?hy14 (by assumption) ?rest14; (case hi14 => simp only [List.getElem?_toArray, List.getElem?_cons_zero, List.getElem?_cons_succ]; rfl); (case hQ14 => exact fun _ _ _ h => h); (case hy14 => refine Or.inl ⟨by rfl, ?_⟩; intro wz hSw; (try dsimp only at hSw); go_simp; try with_reducible rfl); try simp only [Act.put, List.setIfInBounds_toArray, List.set_cons_zero, List.set_cons_succ])
          (refine' wpAnyT_take 12 1 (oi := ?oi15) (v := ?v15) ?hi15 (by kernel_rfl) (by kernel_rfl) (by kernel_rfl) (by kernel_rfl) (by kernel_rfl) (by kernel_rfl) ?hQ15 ?hy15 (by assumption) ?rest15; (case hi15 => simp only [List.getElem?_toArray, List.getElem?_cons_zero, List.getElem?_cons_succ]; rfl); (case hQ15 => exact fun _ _ _ h => h); (case hy15 => refine Or.inl ⟨by rfl, ?_⟩; intro wz hSw; (try dsimp only at hSw); go_simp; try with_reducible rfl); try simp only [Act.put, List.setIfInBounds_toArray, List.set_cons_zero, List.set_cons_succ])
          (refine' wpAnyT_take 12 2 (oi := ?oi16) (v := ?v16) ?hi16 (by kernel_rfl) (by kernel_rfl) (by kernel_rfl) (by kernel_rfl) (by kernel_rfl) (by kernel_rfl) ?hQ16 ?hy16 (by assumption) ?rest16; (case hi16 => simp only [List.getElem?_toArray, List.getElem?_cons_zero, List.getElem?_cons_succ]; rfl); (case hQ16 => exact fun _ _ _ h => h); (case hy16 => refine Or.inl ⟨by rfl, ?_⟩; intro wz hSw; (try dsimp only at hSw); go_simp; try with_reducible rfl); try simp only [Act.put, List.setIfInBounds_toArray, List.set_cons_zero, List.set_cons_succ])
          (refine' wpAnyT_take 12 3 (oi := ?oi17) (v := ?v17) ?hi17 (by kernel_rfl) (by kernel_rfl) (by kernel_rfl) (by kernel_rfl) (by kernel_rfl) (by kernel_rfl) ?hQ17 ?hy17 (by assumption) ?rest17; (case hi17 => simp only [List.getElem?_toArray, List.getElem?_cons_zero, List.getElem?_cons_succ]; rfl); (case hQ17 => exact fun _ _ _ h => h); (case hy17 => refine Or.inl ⟨by rfl, ?_⟩; intro wz hSw; (try dsimp only at hSw); go_simp; try with_reducible rfl); try simp only [Act.put, List.setIfInBounds_toArray, List.set_cons_zero, List.set_cons_succ])
          (refine' wpAnyT_take 12 4 (oi := ?oi18) (v := ?v18) ?hi18 (by kernel_rfl) (by kernel_rfl) (by kernel_rfl) (by kernel_rfl) (by kernel_rfl) (by kernel_rfl) ?hQ18 ?hy18 (by assumption) ?rest18; (case hi18 => simp only [List.getElem?_toArray, List.getElem?_cons_zero, List.getElem?_cons_succ]; rfl); (case hQ18 => exact fun _ _ _ h => h); (case hy18 => refine Or.inl ⟨by rfl, ?_⟩; intro wz hSw; (try dsimp only at hSw); go_simp; try with_reducible rfl); try simp only [Act.put, List.setIfInBounds_toArray, List.set_cons_zero, List.set_cons_succ])
          (refine' wpAnyT_take 12 5 (oi := ?oi19) (v := ?v19) ?hi19 (by kernel_rfl) (by kernel_rfl) (by kernel_rfl) (by kernel_rfl) (by kernel_rfl) (by kernel_rfl) ?hQ19 ?hy19 (by assumption) ?rest19; (case hi19 => simp only [List.getElem?_toArray, List.getElem?_cons_zero, List.getElem?_cons_succ]; rfl); (case hQ19 => exact fun _ _ _ h => h); (case hy19 => refine Or.inl ⟨by rfl, ?_⟩; intro wz hSw; (try dsimp only at hSw); go_simp; try with_reducible rfl); try simp only [Act.put, List.setIfInBounds_toArray, List.set_cons_zero, List.set_cons_succ])
          (refine' wpAnyT_take 12 6 (oi := ?oi20) (v := ?v20) ?hi20 (by kernel_rfl) (by kernel_rfl) (by kernel_rfl) (by kernel_rfl) (by kernel_rfl) (by kernel_rfl) ?hQ20 ?hy20 (by assumption) ?rest20; (case hi20 => simp only [List.getElem?_toArray, List.getElem?_cons_zero, List.getElem?_cons_succ]; rfl); (case hQ20 => exact fun _ _ _ h => h); (case hy20 => refine Or.inl ⟨by rfl, ?_⟩; intro wz hSw; (try dsimp only at hSw); go_simp; try with_reducible rfl); try simp only [Act.put, List.setIfInBounds_toArray, List.set_cons_zero, List.set_cons_succ])
          (refine' wpAnyT_take 12 7 (oi := ?oi21) (v := ?v21) ?hi21 (by kernel_rfl) (by kernel_rfl) (by kernel_rfl) (by kernel_rfl) (by kernel_rfl) (by kernel_rfl) ?hQ21 ?hy21 (by assumption) ?rest21; (case hi21 => simp only [List.getElem?_toArray, List.getElem?_cons_zero, List.getElem?_cons_succ]; rfl); (case hQ21 => exact fun _ _ _ h => h); (case hy21 => refine Or.inl ⟨by rfl, ?_⟩; intro wz hSw; (try dsimp only at hSw); go_simp; try with_reducible rfl); try simp only [Act.put, List.setIfInBounds_toArray, List.set_cons_zero, List.set_cons_succ])
          (refine' wpAnyT_take 12 8 (oi := ?oi22) (v := ?v22) ?hi22 (by kernel_rfl) (by kernel_rfl) (by kernel_rfl) (by kernel_rfl) (by kernel_rfl) (by kernel_rfl) ?hQ22 ?hy22 (by assumption) ?rest22; (case hi22 => simp only [List.getElem?_toArray, List.getElem?_cons_zero, List.getElem?_cons_succ]; rfl); (case hQ22 => exact fun _ _ _ h => h); (case hy22 => refine Or.inl ⟨by rfl, ?_⟩; intro wz hSw; (try dsimp only at hSw); go_simp; try with_reducible rfl); try simp only [Act.put, List.setIfInBounds_toArray, List.set_cons_zero, List.set_cons_succ])
          (refine' wpAnyT_take 12 9 (oi := ?oi23) (v := ?v23) ?hi23 (by kernel_rfl) (by kernel_rfl) (by kernel_rfl) (by kernel_rfl) (by kernel_rfl) (by kernel_rfl) ?hQ23 ?hy23 (by assumption) ?rest23; (case hi23 => simp only [List.getElem?_toArray, List.getElem?_cons_zero, List.getElem?_cons_succ]; rfl); (case hQ23 => exact fun _ _ _ h => h); (case hy23 => refine Or.inl ⟨by rfl, ?_⟩; intro wz hSw; (try dsimp only at hSw); go_simp; try with_reducible rfl); try simp only [Act.put, List.setIfInBounds_toArray, List.set_cons_zero, List.set_cons_succ])
          refine wpAnyT_ready (rs := [10]) (by kernel_rfl) (by simp) ?_
          (refine' AllReadyT.cons (o := ?o27) ?ho27 (fun K hK => ?step27) AllReadyT.nil; (case ho27 => simp only [List.getElem?_toArray, List.getElem?_cons_zero, List.getElem?_cons_succ]; rfl))
          go_simp
          refine HSH.out.mono ?_
          rintro r Y1 ⟨rfl, hb01⟩
          obtain ⟨hc01, hf01⟩ := bcell hb01
          have hzV2 := HZY.out
          have S1 : Y1.cell? ⟨b10, 4, none⟩ = some (.slice (some ⟨go, 0, none⟩) m.outs.length co) ∧ Y1.cell? ⟨go, k * 2, none⟩ = some (.int .i8 P.x) ∧ Y1.cell? ⟨go, k * 2 + 1, none⟩ = some (.int .i8 P.y) := ⟨by rw [hc01 _ _ (by omega)]; exact hHeld.1, by rw [hc01 _ _ (by omega)]; exact hHeld.2.1, by rw [hc01 _ _ (by omega)]; exact hHeld.2.2⟩
          refine hK.out _ _ (fun _ _ => S1) (fun hHd => ?_)
          have hHeld2 := hHd (by decide) (by decide)
          have HOW1 := Lib.hid (own_below HOW0.out hb01 (Nat.le_refl _))
          have HGR1 := Lib.hid (grown_trans HGR0.out (grown_of_below hb01 (some go)))
          have HBW1 := Lib.hid (bl_trans HBW0.out hb01)
          clear hK K hHd hHeld S1 HOW0 HGR0 HBW0 HSH hb01
          try simp only [Act.put, List.setIfInBounds_toArray, List.set_cons_zero, List.set_cons_succ]
          obtain ⟨x4, c0, c1⟩ := id hHeld2
          have hHeld := hHeld2
          (refine' wpAnyT_take 12 11 (oi := ?oi24) (v := ?v24) ?hi24 (by kernel_rfl) (by kernel_rfl) (by kernel_rfl) (by kernel_rfl) (by kernel_rfl) (by kernel_rfl) ?hQ24 ?hy24 (by assumption) ?rest24; (case hi24 => simp only [List.getElem?_toArray, List.getElem?_cons_zero, List.getElem?_cons_succ]; rfl); (case hQ24 => exact fun _ _ _ h => h); (case hy24 => refine Or.inl ⟨by rfl, ?_⟩; intro wz hSw; (try dsimp only at hSw); go_simp; try with_reducible rfl); try simp only [Act.put, List.setIfInBounds_toArray, List.set_cons_zero, List.set_cons_succ])
          have d0 : Y1.frozen? ⟨go, k * 2, none⟩ = false := HOW1.out.frozenAt _
          have d1 : Y1.frozen? ⟨go, k * 2 + 1, none⟩ = false := HOW1.out.frozenAt _
          refine wpAnyT_ready (rs := [12]) (by kernel_rfl) (by simp) ?_
          (refine' AllReadyT.cons (o := ?o28) ?ho28 (fun K hK => ?step28) AllReadyT.nil; (case ho28 => simp only [List.getElem?_toArray, List.getElem?_cons_zero, List.getElem?_cons_succ]; rfl))
          go_simp
          refine hK.out _ _ (fun _ h => absurd h (by decide)) (fun _ => ?_)
          clear hK K
          try simp only [Act.put, List.setIfInBounds_toArray, List.set_cons_zero, List.set_cons_succ]
          refine wpAnyT_done (by kernel_rfl) ?_ _
          have hown8 := own_put (own_put HOW1.out (k * 2) (.int .i8 (P.x + e))) (k * 2 + 1) (.int .i8 (P.y + d))
          rw [flatC_xy _ k (by rw [upTo_len]; exact hlt')] at hown8
          have hset : (upTo (mvC e d) m.outs k).set k ⟨P.x + e, P.y + d⟩ = upTo (mvC e d) m.outs (k + 1) := by
            rw [upTo_succ _ _ k hlt', HPP.out]
            rfl
          rw [hset] at hown8
          have HO8 := Lib.hid hown8
          have HG8 := Lib.hid (grown_trans (grown_trans HGR1.out (grown_set1 Y1 go (k * 2) (.int .i8 (P.x + e)))) (grown_set1 _ go (k * 2 + 1) (.int .i8 (P.y + d))))
          have hgw : w.heap.size ≤ go := by omega
          have HB8 := Lib.hid (bl_set (bl_set HBW1.out (p := ⟨go, k * 2, none⟩) hgw (.int .i8 (P.x + e))) (p := ⟨go, k * 2 + 1, none⟩) hgw (.int .i8 (P.y + d)))
          clear hset hown8 x4 c0 c1 d0 d1 HOW1 HGR1 HBW1 hHeld hHeld2 hc01 hf01
          go_wp2_with fail
          go_roundw
          case rel => exact ⟨k + 1, by omega, by go_num, HG8.out, HO8.out, HB8.out⟩
          case measure => simp [intOf]; omega
        · have hkl : k = m.outs.length := by omega
          subst hkl
          have q6 := blk_kept HQ69.out HGR.out (by simp; omega)
          obtain ⟨x0, x1, x2, x3, x4, -⟩ := five_cells q10
          obtain ⟨z0, z1, z2', z3, z4, f0, f1, f2, f3, f4⟩ := five_cells q6
          clear q10
          go_wp2_with fail
          have hh := five_set q6 (.int .i8 m.bd.wd) (.int .i8 m.bd.hg) (.slice (some ⟨g8, 0, none⟩) m.bd.ps.length gc8) (.slice (some ⟨gi, 0, none⟩) m.ins.length ci) (.slice (some ⟨go, 0, none⟩) m.outs.length co)
          obtain ⟨u0, u1, u2, u3, u4, -⟩ := five_cells hh
          have h6 := H6.out
          refine bodyPost_ret (v := .tuple #[mcv m.bd.wd m.bd.hg (.slice (some ⟨g8, 0, none⟩) m.bd.ps.length gc8) (.slice (some ⟨gi, 0, none⟩) m.ins.length ci) (.slice (some ⟨go, 0, none⟩) m.outs.length co), .int .i64 0]) (by simp [results, Tryz.results39, go_sem, u0, u1, u2, u3, u4]) rfl ⟨_, _, _, rfl, ⟨?_, ?_, ?_⟩, ?_⟩
          · have h1 := own_kept HO89.out HGR.out (fun q hq => (HNE8.out q hq).1)
            show World.ownsRow _ _ _ _ _ (m.bd.ps.map (mvPc e d)).length _
            rw [List.length_map]
            exact own_mono (own_set5 h1 (fun q hq => (HNE8.out q hq).2.2) _ _ _ _ _) (by omega)
          · have h1 := own_kept HOI9.out HGR.out (fun q hq => HNE2.out q hq)
            rw [upTo_all] at h1
            show World.ownsRow _ _ _ _ _ (m.ins.map (mvPo e d)).length _
            rw [List.length_map]
            exact own_mono (own_set5 h1 (fun q hq e => by have h9 : some gi = some q := hq; cases h9; simp at e; omega) _ _ _ _ _) (by omega)
          · have h1 := HOW.out
            rw [upTo_all] at h1
            show World.ownsRow _ _ _ _ _ (m.outs.map (mvC e d)).length _
            rw [List.length_map]
            exact own_mono (own_set5 h1 (fun q hq e => by have h9 : some go = some q := hq; cases h9; simp at e; omega) _ _ _ _ _) (by omega)
          · have hbw2 := HBW.out
            exact bl_set5 hbw2 (by show w.heap.size ≤ w.heap.size + 1; omega) _ _ _ _ _
end Go.Proofs.YtmeefmoblkiebaaGreat
/- Contracts: machines that are moved (spec.MoveMachine), where all fits. -/
namespace Go.Proofs.YtmeefmoblkiebaaGreat
open Go.RowKit
set_option linter.unusedVariables false
set_option linter.unusedSimpArgs false
set_option maxHeartbeats 400000
set_option maxRecDepth 100000
theorem own_types {w : World} {base base' g g' n n' cap cap' z z' : Nat} {e e' : TypeId} {xs ys : List Value} (h : w.ownsRow base e z (.slice (some ⟨g, 0, none⟩) n cap) n xs) (h' : w.ownsRow base' e' z' (.slice (some ⟨g', 0, none⟩) n' cap') n' ys) (hne : e ≠ e') : g ≠ g' := by
  intro heq
  subst heq
  rcases h.2 with ⟨h0, -⟩ | ⟨g1, c1, cur1, he1, -, hg1, -⟩
  · cases h0
  · rcases h'.2 with ⟨h0, -⟩ | ⟨g2, c2, cur2, he2, -, hg2, -⟩
    · cases h0
    · cases he1
      cases he2
      rw [hg1] at hg2
      cases hg2
      exact hne rfl
set_option maxHeartbeats 3200000 in
theorem specMoveMachine_ok (m : Mc) (e d : Int) (v : Value) (w : World) (h : MVc w v m) (H : MvOk m e d) :
    Calls Tryz.prog 40 #[v, .int .i64 e, .int .i64 d] w fun r w' => ∃ s si so, r = .returned (.tuple #[mcv m.bd.wd m.bd.hg s si so, .int .i64 0]) ∧ OwnC w' w.heap.size s si so (mvM m m.bd.wd m.bd.hg e d) ∧ Below w.heap.size w w' := by
  obtain ⟨hvb, h60, hi1, hi6, ho1, ho8, -, -, -⟩ := vMc_parts m H.v
  obtain ⟨sa, scap, ia, icap, oa, ocap, rfl, hcap, hps, hins, houts⟩ := h
  have HMV : Hid (∀ u, Below w.heap.size w u → MVc u (mcv m.bd.wd m.bd.hg (.slice sa m.bd.ps.length scap) (.slice ia m.ins.length icap) (.slice oa m.outs.length ocap)) m) := Lib.hid (fun u hb => MVc.step ⟨sa, scap, ia, icap, oa, ocap, rfl, hcap, hps, hins, houts⟩ hb)
  have HPV : Hid (∀ u, Below w.heap.size w u → PV u (.slice sa m.bd.ps.length scap) m.bd.ps) := Lib.hid (fun u hb => ⟨sa, scap, rfl, (hps.below hb (Nat.le_refl _)).mono hb.size⟩)
  have HMM : Hid (∀ u, Below w.heap.size w u → MV u (mcv m.bd.wd m.bd.hg (.slice sa m.bd.ps.length scap) (.slice ia m.ins.length icap) (.slice oa m.outs.length ocap)) m) := Lib.hid (fun u hb => ⟨_, _, _, rfl, ⟨sa, scap, rfl, (hps.below hb (Nat.le_refl _)).mono hb.size⟩, ⟨ia, icap, rfl, (hins.below hb (Nat.le_refl _)).mono hb.size⟩, ⟨oa, ocap, rfl, (houts.below hb (Nat.le_refl _)).mono hb.size⟩⟩)
  obtain ⟨W1, hW1⟩ : ∃ W1, W1 = w.alloc (.cells #[.int .i8 m.bd.wd, .int .i8 m.bd.hg, .slice sa m.bd.ps.length scap, .slice ia m.ins.length icap, .slice oa m.outs.length ocap] 55) := ⟨_, rfl⟩
  obtain ⟨W2, hW2⟩ : ∃ W2, W2 = W1.alloc (.cells #[.int .i8 0, .int .i8 0, .slice none 0 0, .slice none 0 0, .slice none 0 0] 55) := ⟨_, rfl⟩
  have hz1 : W1.heap.size = w.heap.size + 1 := by rw [hW1]; simp
  have hz2 : W2.heap.size = w.heap.size + 2 := by rw [hW2]; simp [hz1]
  have B01 : Below w.heap.size w W1 := by rw [hW1]; exact bl_alloc (Below.refl _ _)
  have B12 : Below W1.heap.size W1 W2 := by rw [hW2]; exact bl_alloc (Below.refl _ _)
  have q3 : W2.heap[w.heap.size]? = some (.cells #[.int .i8 m.bd.wd, .int .i8 m.bd.hg, .slice sa m.bd.ps.length scap, .slice ia m.ins.length icap, .slice oa m.outs.length ocap] 55 (0, 0)) := by
    rw [B12.block w.heap.size (by omega), hW1]
    exact heap_alloc_new _ _
  have q6 : W2.heap[w.heap.size + 1]? = some (.cells #[.int .i8 0, .int .i8 0, .slice none 0 0, .slice none 0 0, .slice none 0 0] 55 (0, 0)) := by
    rw [hW2, ← hz1]
    exact heap_alloc_new _ _
  have HB02 := Lib.hid (bl_trans B01 B12)
  have HMP : Hid (∀ u, Below w.heap.size w u → u.heap[w.heap.size]? = some (.cells #[.int .i8 m.bd.wd, .int .i8 m.bd.hg, .slice sa m.bd.ps.length scap, .slice ia m.ins.length icap, .slice oa m.outs.length ocap] 55 (0, 0)) → MP u w.heap.size m) := Lib.hid (by
    intro u hb hq
    obtain ⟨x0, x1, x2, x3, x4, -⟩ := five_cells hq
    exact ⟨lt_of_block hq, _, _, _, ⟨⟨x0, x1, x2⟩, x3, x4⟩, ⟨sa, scap, rfl, (hps.below hb (Nat.le_refl _)).mono hb.size⟩, ⟨ia, icap, rfl, (hins.below hb (Nat.le_refl _)).mono hb.size⟩, ⟨oa, ocap, rfl, (houts.below hb (Nat.le_refl _)).mono hb.size⟩⟩)
  have HVM := Lib.hid (l03Ok_any w.heap.size m W2 (HMP.out W2 HB02.out q3) H.ok (by omega) (by omega) (by omega))
  have HV := Lib.hid H.v
  have HZ2 := Lib.hid hz2
  obtain ⟨x0, x1, x2, x3, x4, -⟩ := five_cells q3
  have HQ3 := Lib.hid q3
  have HQ6 := Lib.hid q6
  have HH := Lib.hid H
  clear B01 B12 hz1 hz2 q3 q6 hps hins houts H hcap hvb
  go_enter Tryz.func40, Tryz.ntmps40
  go_upto_region 1 with fail
  rw [← hW1, ← hW2]
  clear hW1 hW2
  go_wp2_with fail
  refine HVM.out.mono ?_
  rintro r W3 ⟨rfl, hb3⟩
  rw [HV.out]
  have HB03 := Lib.hid (bl_trans HB02.out hb3)
  have hzW2 := HZ2.out
  have q3 := (hb3.block w.heap.size (by omega)).trans HQ3.out
  have q6 := (hb3.block (w.heap.size + 1) (by omega)).trans HQ6.out
  have z3 : w.heap.size + 2 ≤ W3.heap.size := by have := hb3.size; omega
  have HZ3 := Lib.hid z3
  clear x0 x1 x2 x3 x4 hb3 HVM HQ3 HQ6 HB02 HV hzW2 z3
  obtain ⟨x0, x1, x2, x3, x4, -⟩ := five_cells q3
  have HQ3 := Lib.hid q3
  have HQ6 := Lib.hid q6
  have HMB := Lib.hid (specMoveBoard_ok m.bd.wd m.bd.hg _ m.bd.ps e d W3 (HPV.out W3 HB03.out) HH.out.ok.1 (vMc_parts m HH.out.v).1 HH.out.ok2.1 (vMc_parts _ HH.out.v2).1 h60 HH.out.he HH.out.hd HH.out.pos HH.out.inp)
  clear q3 q6
  go_wp2_with fail
  refine HMB.out.mono ?_
  rintro r W4 ⟨v8, rfl, hown8, hb4⟩
  obtain ⟨g8, gc8, rfl, ⟨hg3, hg4⟩, -⟩ := own_posP hown8 HH.out.pos
  have hb45 : Below W4.heap.size W4 (W4.alloc (.cells #[.int .i8 m.bd.wd, .int .i8 m.bd.hg, .slice (some ⟨g8, 0, none⟩) m.bd.ps.length gc8] 27)) := bl_alloc (Below.refl _ _)
  have q8 : (W4.alloc (.cells #[.int .i8 m.bd.wd, .int .i8 m.bd.hg, .slice (some ⟨g8, 0, none⟩) m.bd.ps.length gc8] 27)).heap[W4.heap.size]? = some (.cells #[.int .i8 m.bd.wd, .int .i8 m.bd.hg, .slice (some ⟨g8, 0, none⟩) m.bd.ps.length gc8] 27 (0, 0)) := heap_alloc_new _ _
  have z5 : (W4.alloc (.cells #[.int .i8 m.bd.wd, .int .i8 m.bd.hg, .slice (some ⟨g8, 0, none⟩) m.bd.ps.length gc8] 27)).heap.size = W4.heap.size + 1 := by simp
  obtain ⟨b8, hb8⟩ : ∃ b8, b8 = W4.heap.size := ⟨_, rfl⟩
  obtain ⟨W5, hW5⟩ : ∃ W5, W5 = W4.alloc (.cells #[.int .i8 m.bd.wd, .int .i8 m.bd.hg, .slice (some ⟨g8, 0, none⟩) m.bd.ps.length gc8] 27) := ⟨_, rfl⟩
  have hb35 := bl_trans hb4 hb45
  have hO8 := own_below hown8 hb45 (Nat.le_refl _)
  rw [← hW5] at hb35 hO8 q8 z5
  rw [← hb8] at q8
  have z4 : W3.heap.size ≤ W4.heap.size := hb4.size
  have z3 := HZ3.out
  have q3 := (hb35.block w.heap.size (by omega)).trans HQ3.out
  have q6 := (hb35.block (w.heap.size + 1) (by omega)).trans HQ6.out
  have HB05 := Lib.hid (bl_trans HB03.out hb35)
  have HO8 := Lib.hid hO8
  have h8 : W3.heap.size ≤ g8 ∧ g8 < b8 ∧ b8 + 1 = W5.heap.size ∧ w.heap.size + 2 ≤ W3.heap.size := ⟨hg3, by omega, by omega, by omega⟩
  have H8 := Lib.hid h8
  have HCM := Lib.hid (l03Copy_any w.heap.size m W5 (HMP.out W5 HB05.out q3) (by omega) (by omega) (by omega) (by omega) (by omega))
  clear x0 x1 x2 x3 x4 hb35 hb45 hb4 hown8 HB03 HQ3 HQ6 HMB HZ3 hO8 z4 z3 h8 hg3 hg4 z5
  obtain ⟨x0, x1, x2, x3, x4, -⟩ := five_cells q3
  have HQ6 := Lib.hid q6
  have HQ8 := Lib.hid q8
  clear q3 q6 q8
  go_upto_region 4 with fail
  rw [← hW5, ← hb8]
  clear hW5 hb8
  go_wp2_with fail
  refine HCM.out.mono ?_
  rintro r W6 ⟨s1, si, so, rfl, hown, hb6⟩
  obtain ⟨hos, hoi, hoo⟩ := hown
  obtain ⟨gs, gsc, rfl, -, -⟩ := own_posP hos HH.out.pos
  obtain ⟨gi, ci, rfl, ⟨hgi1, hgi2⟩, -⟩ := own_posP hoi (by omega)
  obtain ⟨go, co, rfl, ⟨hgo1, hgo2⟩, -⟩ := own_posP hoo (by omega)
  have hne : gi ≠ go := own_types hoi hoo (by decide)
  obtain ⟨W7, hW7⟩ : ∃ W7, W7 = W6.alloc (.cells #[.int .i8 m.bd.wd, .int .i8 m.bd.hg, .slice (some ⟨gs, 0, none⟩) m.bd.ps.length gsc, .slice (some ⟨gi, 0, none⟩) m.ins.length ci, .slice (some ⟨go, 0, none⟩) m.outs.length co] 55) := ⟨_, rfl⟩
  obtain ⟨b10, hb10⟩ : ∃ b10, b10 = W6.heap.size := ⟨_, rfl⟩
  have hb67 : Below W6.heap.size W6 W7 := by rw [hW7]; exact bl_alloc (Below.refl _ _)
  have q10 : W7.heap[b10]? = some (.cells #[.int .i8 m.bd.wd, .int .i8 m.bd.hg, .slice (some ⟨gs, 0, none⟩) m.bd.ps.length gsc, .slice (some ⟨gi, 0, none⟩) m.ins.length ci, .slice (some ⟨go, 0, none⟩) m.outs.length co] 55 (0, 0)) := by rw [hb10, hW7]; exact heap_alloc_new _ _
  have hb57 := bl_trans hb6 hb67
  have h8 := H8.out
  have z56 := hb6.size
  have h6 : W5.heap.size ≤ gi ∧ gi < b10 ∧ W5.heap.size ≤ go ∧ go < b10 ∧ g8 < b8 ∧ b8 < W5.heap.size ∧ w.heap.size + 2 ≤ g8 ∧ w.heap.size + 2 ≤ W3.heap.size := by omega
  have q6 := (hb57.block (w.heap.size + 1) (by omega)).trans HQ6.out
  have q8 := (hb57.block b8 (by omega)).trans HQ8.out
  have HB07 := Lib.hid (bl_trans HB05.out hb57)
  have HOI := Lib.hid (own_below hoi hb67 (Nat.le_refl _))
  have HOO := Lib.hid (own_below hoo hb67 (Nat.le_refl _))
  have HO8' := Lib.hid (own_below HO8.out hb57 (Nat.le_refl _))
  have H6 := Lib.hid h6
  have HNE := Lib.hid hne
  clear x0 x1 x2 x3 x4 hos hoi hoo hgi1 hgi2 hgo1 hgo2 hb67 hb57 hb6 HB05 HQ6 HQ8 HO8 HCM H8 h8 z56 h6 hne
  obtain ⟨y0, y1, y2, -⟩ := three_cells q8
  obtain ⟨x0, x1, x2, x3, x4, f0, f1, f2, f3, f4⟩ := five_cells q10
  go_upto_region 7 with fail
  rw [← hW7, ← hb10]
  clear hW7 hb10
  go_upto_region 8 with fail
  have q10' := set_block (set_block (set_block q10 0 (.int .i8 m.bd.wd)) 1 (.int .i8 m.bd.hg)) 2 (.slice (some ⟨g8, 0, none⟩) m.bd.ps.length gc8)
  have h6 := H6.out
  have hg78 := grown_trans (grown_trans (grown_set1 W7 b10 0 (.int .i8 m.bd.wd)) (grown_set1 _ b10 1 (.int .i8 m.bd.hg))) (grown_set1 _ b10 2 (.slice (some ⟨g8, 0, none⟩) m.bd.ps.length gc8))
  obtain ⟨W8, hW8⟩ : ∃ W8, W8 = ((W7.setCell ⟨b10, 0, none⟩ (.int .i8 m.bd.wd)).setCell ⟨b10, 1, none⟩ (.int .i8 m.bd.hg)).setCell ⟨b10, 2, none⟩ (.slice (some ⟨g8, 0, none⟩) m.bd.ps.length gc8) := ⟨_, rfl⟩
  rw [← hW8] at q10' hg78 ⊢
  have hQ10 : Hid (W8.heap[b10]? = some (.cells #[.int .i8 m.bd.wd, .int .i8 m.bd.hg, .slice (some ⟨g8, 0, none⟩) m.bd.ps.length gc8, .slice (some ⟨gi, 0, none⟩) m.ins.length ci, .slice (some ⟨go, 0, none⟩) m.outs.length co] 55 (0, 0))) := Lib.hid q10'
  have hlt10 := lt_of_block q10'
  have HQ6 := Lib.hid (blk_kept q6 hg78 (by simp; omega))
  have HOI8 := Lib.hid (own_kept HOI.out hg78 (fun k hk e => by cases hk; simp at e; omega))
  have HOO8 := Lib.hid (own_kept HOO.out hg78 (fun k hk e => by cases hk; simp at e; omega))
  have HO88 := Lib.hid (own_kept HO8'.out hg78 (fun k hk e => by cases hk; simp at e; omega))
  have HB08 := Lib.hid (bl_grown HB07.out hg78 (fun k hk => by cases hk; omega))
  clear hW8 q10 q10' q6 q8 hg78 x0 x1 x2 x3 x4 f0 f1 f2 f3 f4 y0 y1 y2 HOI HOO HO8' HB07
  have HN1 : Hid (gi ≠ b10 ∧ go ≠ b10 ∧ gi < W8.heap.size ∧ go < W8.heap.size ∧ g8 < W8.heap.size ∧ w.heap.size + 1 < W8.heap.size) := Lib.hid (by omega)
  obtain ⟨x0, x1, x2, x3, x4, -⟩ := five_cells hQ10.out
  clear h6
  go_wp2_with fail
  clear x0 x1 x2 x3 x4
  go_loopw [11] (fun i wr => ∃ k : Nat, k ≤ m.ins.length ∧ i = .int .i64 (k : Int) ∧ W8.grownBy wr (some gi) ∧ wr.ownsRow W5.heap.size 127 3 (.slice (some ⟨gi, 0, none⟩) m.ins.length ci) m.ins.length (flat Po.cells (upTo (mvPo e d) m.ins k)) ∧ Below w.heap.size w wr) (fun i _ => m.ins.length - (intOf i).toNat)
  case atStart => exact ⟨0, by omega, rfl, World.grownBy.refl _ _, by rw [upTo_zero]; exact HOI8.out, HB08.out⟩
  case round =>
    obtain ⟨k, hk, rfl, hgr, hown, hbw⟩ := hrel
    obtain ⟨V1, hV1⟩ : ∃ V1, V1 = wr := ⟨_, rfl⟩
    subst hV1
    have h6 := H6.out
    have hn1 := HN1.out
    have q10 := blk_kept hQ10.out hgr (by simp; omega)
    have HGR := Lib.hid hgr
    have HOW := Lib.hid hown
    have HBW := Lib.hid hbw
    have hzV : W8.heap.size ≤ V1.heap.size := hgr.size
    clear hgr hown hbw
    by_cases hlt : (k : Int) < (m.ins.length : Int)
    · have hlt' : k < m.ins.length := by omega
      obtain ⟨c0, c1⟩ := po_own HOW.out (upTo_len _ _ k).symm k (by rw [upTo_len]; exact hlt')
      rw [upTo_at _ _ k hlt'] at c0 c1
      obtain ⟨P, hP⟩ : ∃ P, P = m.ins[k] := ⟨_, rfl⟩
      have hinP : (0 ≤ P.x ∧ P.x ≤ 23) ∧ 0 ≤ P.y ∧ P.y ≤ 23 := by rw [hP]; exact HH.out.inI k hlt'
      rw [← hP] at c0 c1
      have HPP := Lib.hid hP
      clear hP
      obtain ⟨x0, x1, x2, x3, x4, -⟩ := five_cells q10
      clear q10 h6
      have e1 := wrap8s e (by have := HH.out.he; omega)
      have e2 := wrap8s d (by have := HH.out.hd; omega)
      have e3 := wrap8s (P.x + e) (by have := HH.out.he; omega)
      have e4 := wrap8s (P.y + d) (by have := HH.out.hd; omega)
      have d0 : ∀ i, V1.frozen? ⟨gi, i, none⟩ = false := fun i => HOW.out.frozenAt i
      have d0' := d0 (k * 3)
      go_upto_region 11 with fail
      go_still_tail 13, (by kernel_rfl)
      change wpList _ _ _ _ _ V1.drew
      go_wp2
      go_upto_region 12 with fail
      obtain ⟨Y1, hY1⟩ : ∃ Y1, Y1 = (V1.setCell ⟨gi, k * 3, none⟩ (.int .i8 (P.x + e))).drew := ⟨_, rfl⟩
      have y1 : Y1.cell? ⟨gi, k * 3 + 1, none⟩ = some (.int .i8 P.y) := by
        rw [hY1]
        show (V1.setCell ⟨gi, k * 3, none⟩ (.int .i8 (P.x + e))).cell? ⟨gi, k * 3 + 1, none⟩ = _
        rw [World.cell?_setCell_other _ _ _ _ (by first | (simp; done) | (simp; omega))]
        exact c1
      have y3 : Y1.cell? ⟨b10, 3, none⟩ = some (.slice (some ⟨gi, 0, none⟩) m.ins.length ci) := by
        rw [hY1]
        show (V1.setCell ⟨gi, k * 3, none⟩ (.int .i8 (P.x + e))).cell? ⟨b10, 3, none⟩ = _
        rw [World.cell?_setCell_other _ _ _ _ (by first | (simp; done) | (simp; omega))]
        exact x3
      have d1 : Y1.frozen? ⟨gi, k * 3 + 1, none⟩ = false := by
        rw [hY1]
        show (V1.setCell ⟨gi, k * 3, none⟩ (.int .i8 (P.x + e))).frozen? ⟨gi, k * 3 + 1, none⟩ = _
        simpa using d0 (k * 3 + 1)
      have hgw : w.heap.size ≤ gi := by have := H6.out; omega
      have HOW1 := Lib.hid (own_below (own_put HOW.out (k * 3) (.int .i8 (P.x + e))) (bl_drew (Below.refl _ _)) (Nat.le_refl _))
      have HGR1 := Lib.hid (grown_trans (grown_trans HGR.out (grown_set1 V1 gi (k * 3) (.int .i8 (P.x + e)))) (grown_of_below (bl_drew (Below.refl _ _)) (some gi)))
      have HBW1 := Lib.hid (bl_drew (bl_set HBW.out (p := ⟨gi, k * 3, none⟩) hgw (.int .i8 (P.x + e))))
      rw [← hY1] at HOW1 HGR1 HBW1 ⊢
      clear hY1 x0 x1 x2 x3 x4 c0 c1 HGR HOW HBW d0 d0'
      go_still_tail 13, (by kernel_rfl)
      change wpList _ _ _ _ _ Y1.drew
      go_wp2
      have hown8 := own_put HOW1.out (k * 3 + 1) (.int .i8 (P.y + d))
      rw [flatO_xy _ k (by rw [upTo_len]; exact hlt')] at hown8
      have hset : (upTo (mvPo e d) m.ins k).set k ⟨P.x + e, P.y + d, ((upTo (mvPo e d) m.ins k)[k]'(by rw [upTo_len]; exact hlt')).s⟩ = upTo (mvPo e d) m.ins (k + 1) := by
        rw [upTo_succ _ _ k hlt']
        congr 1
        rw [upTo_at _ _ k hlt', HPP.out]
        rfl
      rw [hset] at hown8
      have HO8 := Lib.hid (own_below hown8 (bl_drew (Below.refl _ _)) (Nat.le_refl _))
      have HG8 := Lib.hid (grown_trans (grown_trans HGR1.out (grown_set1 _ gi (k * 3 + 1) (.int .i8 (P.y + d)))) (grown_of_below (bl_drew (Below.refl _ _)) (some gi)))
      have HB8 := Lib.hid (bl_drew (bl_set HBW1.out (p := ⟨gi, k * 3 + 1, none⟩) hgw (.int .i8 (P.y + d))))
      clear hset hown8 y1 y3 d1 HOW1 HGR1 HBW1 e1 e2 e3 e4
      go_roundw
      case rel => exact ⟨k + 1, by omega, by go_num, HG8.out, HO8.out, HB8.out⟩
      case measure => simp [intOf]; omega
    · have hkl : k = m.ins.length := by omega
      subst hkl
      have q10b := q10
      obtain ⟨x0, x1, x2, x3, x4, -⟩ := five_cells q10b
      have HQ10b := Lib.hid q10
      have HNE2 : Hid (∀ q, (Value.slice (some ⟨gi, 0, none⟩) m.ins.length ci).ownBlock = some q → some q ≠ some go) := Lib.hid (fun q hq e => by have h9 : some gi = some q := hq; cases h9; simp at e; exact HNE.out e)
      have HNE8 : Hid (∀ q, (Value.slice (some ⟨g8, 0, none⟩) m.bd.ps.length gc8).ownBlock = some q → some q ≠ some go ∧ some q ≠ some gi ∧ some q ≠ some (w.heap.size + 1)) := Lib.hid (fun q hq => by have h9 : some g8 = some q := hq; cases h9; refine ⟨fun e => ?_, fun e => ?_, fun e => ?_⟩ <;> (simp at e; omega))
      have HOI9 := HOW
      have HOO9 := Lib.hid (own_kept HOO8.out HGR.out (fun q hq e => by have h9 : some go = some q := hq; cases h9; simp at e; exact HNE.out e.symm))
      have HO89 := Lib.hid (own_kept HO88.out HGR.out (fun q hq => (HNE8.out q hq).2.1))
      have HQ69 := Lib.hid (blk_kept HQ6.out HGR.out (by simp; omega))
      have HBW9 := HBW
      have HZV9 : Hid (go < V1.heap.size ∧ b10 < V1.heap.size ∧ go ≠ b10 ∧ w.heap.size + 1 < go ∧ gi < V1.heap.size) := Lib.hid (by omega)
      obtain ⟨V9, hV9⟩ : ∃ V9, V9 = V1 := ⟨_, rfl⟩
      have HGRx := HGR
      have HN1x := HN1
      clear q10 q10b h6
      go_wp2_with fail
      clear x0 x1 x2 x3 x4 HOI8 HOO8 HO88 HQ6 HB08 HGR HOW HBW HN1 hn1 hzV hlt hk
      subst hV9
      go_loopw [12] (fun i wr => ∃ k : Nat, k ≤ m.outs.length ∧ i = .int .i64 (k : Int) ∧ V9.grownBy wr (some go) ∧ wr.ownsRow W5.heap.size 47 2 (.slice (some ⟨go, 0, none⟩) m.outs.length co) m.outs.length (flat Ce.cells (upTo (mvC e d) m.outs k)) ∧ Below w.heap.size w wr) (fun i _ => m.outs.length - (intOf i).toNat)
      case atStart => exact ⟨0, by omega, rfl, World.grownBy.refl _ _, by rw [upTo_zero]; exact HOO9.out, HBW9.out⟩
      case round =>
        obtain ⟨k, hk, rfl, hgr, hown, hbw⟩ := hrel
        obtain ⟨V1, hV1⟩ : ∃ V1, V1 = wr := ⟨_, rfl⟩
        subst hV1
        have hz9 := HZV9.out
        have q10 := blk_kept HQ10b.out hgr (by simp; omega)
        have HGR := Lib.hid hgr
        have HOW := Lib.hid hown
        have HBW := Lib.hid hbw
        have hzV : V9.heap.size ≤ V1.heap.size := hgr.size
        clear hgr hown hbw
        by_cases hlt : (k : Int) < (m.outs.length : Int)
        · have hlt' : k < m.outs.length := by omega
          obtain ⟨c0, c1⟩ := ce_own HOW.out (upTo_len _ _ k).symm k (by rw [upTo_len]; exact hlt')
          rw [upTo_at _ _ k hlt'] at c0 c1
          obtain ⟨P, hP⟩ : ∃ P, P = m.outs[k] := ⟨_, rfl⟩
          have hinP : (0 ≤ P.x ∧ P.x ≤ 23) ∧ 0 ≤ P.y ∧ P.y ≤ 23 := by rw [hP]; exact HH.out.inO k hlt'
          rw [← hP] at c0 c1
          have HPP := Lib.hid hP
          clear hP
          obtain ⟨x0, x1, x2, x3, x4, -⟩ := five_cells q10
          clear q10
          have e1 := wrap8s e (by have := HH.out.he; omega)
          have e2 := wrap8s d (by have := HH.out.hd; omega)
          have e3 := wrap8s (P.x + e) (by have := HH.out.he; omega)
          have e4 := wrap8s (P.y + d) (by have := HH.out.hd; omega)
          have d0 : ∀ i, V1.frozen? ⟨go, i, none⟩ = false := fun i => HOW.out.frozenAt i
          have d0' := d0 (k * 2)
          go_upto_region 11 with fail
          go_still_tail 11, (by kernel_rfl)
          change wpList _ _ _ _ _ V1.drew
          go_wp2
          go_upto_region 12 with fail
          obtain ⟨Y1, hY1⟩ : ∃ Y1, Y1 = (V1.setCell ⟨go, k * 2, none⟩ (.int .i8 (P.x + e))).drew := ⟨_, rfl⟩
          have y1 : Y1.cell? ⟨go, k * 2 + 1, none⟩ = some (.int .i8 P.y) := by
            rw [hY1]
            show (V1.setCell ⟨go, k * 2, none⟩ (.int .i8 (P.x + e))).cell? ⟨go, k * 2 + 1, none⟩ = _
            rw [World.cell?_setCell_other _ _ _ _ (by first | (simp; done) | (simp; omega))]
            exact c1
          have y3 : Y1.cell? ⟨b10, 4, none⟩ = some (.slice (some ⟨go, 0, none⟩) m.outs.length co) := by
            rw [hY1]
            show (V1.setCell ⟨go, k * 2, none⟩ (.int .i8 (P.x + e))).cell? ⟨b10, 4, none⟩ = _
            rw [World.cell?_setCell_other _ _ _ _ (by first | (simp; done) | (simp; omega))]
            exact x4
          have d1 : Y1.frozen? ⟨go, k * 2 + 1, none⟩ = false := by
            rw [hY1]
            show (V1.setCell ⟨go, k * 2, none⟩ (.int .i8 (P.x + e))).frozen? ⟨go, k * 2 + 1, none⟩ = _
            simpa using d0 (k * 2 + 1)
          have hgw : w.heap.size ≤ go := by omega
          have HOW1 := Lib.hid (own_below (own_put HOW.out (k * 2) (.int .i8 (P.x + e))) (bl_drew (Below.refl _ _)) (Nat.le_refl _))
          have HGR1 := Lib.hid (grown_trans (grown_trans HGR.out (grown_set1 V1 go (k * 2) (.int .i8 (P.x + e)))) (grown_of_below (bl_drew (Below.refl _ _)) (some go)))
          have HBW1 := Lib.hid (bl_drew (bl_set HBW.out (p := ⟨go, k * 2, none⟩) hgw (.int .i8 (P.x + e))))
          rw [← hY1] at HOW1 HGR1 HBW1 ⊢
          clear hY1 x0 x1 x2 x3 x4 c0 c1 HGR HOW HBW d0 d0'
          go_still_tail 11, (by kernel_rfl)
          change wpList _ _ _ _ _ Y1.drew
          go_wp2
          have hown8 := own_put HOW1.out (k * 2 + 1) (.int .i8 (P.y + d))
          rw [flatC_xy _ k (by rw [upTo_len]; exact hlt')] at hown8
          have hset : (upTo (mvC e d) m.outs k).set k ⟨P.x + e, P.y + d⟩ = upTo (mvC e d) m.outs (k + 1) := by
            rw [upTo_succ _ _ k hlt', HPP.out]
            rfl
          rw [hset] at hown8
          have HO8 := Lib.hid (own_below hown8 (bl_drew (Below.refl _ _)) (Nat.le_refl _))
          have HG8 := Lib.hid (grown_trans (grown_trans HGR1.out (grown_set1 _ go (k * 2 + 1) (.int .i8 (P.y + d)))) (grown_of_below (bl_drew (Below.refl _ _)) (some go)))
          have HB8 := Lib.hid (bl_drew (bl_set HBW1.out (p := ⟨go, k * 2 + 1, none⟩) hgw (.int .i8 (P.y + d))))
          clear hset hown8 y1 y3 d1 HOW1 HGR1 HBW1 e1 e2 e3 e4
          go_roundw
          case rel => exact ⟨k + 1, by omega, by go_num, HG8.out, HO8.out, HB8.out⟩
          case measure => simp [intOf]; omega
        · have hkl : k = m.outs.length := by omega
          subst hkl
          have q6 := blk_kept HQ69.out HGR.out (by simp; omega)
          obtain ⟨x0, x1, x2, x3, x4, -⟩ := five_cells q10
          obtain ⟨z0, z1, z2', z3, z4, f0, f1, f2, f3, f4⟩ := five_cells q6
          clear q10
          go_wp2_with fail
          have hh := five_set q6 (.int .i8 m.bd.wd) (.int .i8 m.bd.hg) (.slice (some ⟨g8, 0, none⟩) m.bd.ps.length gc8) (.slice (some ⟨gi, 0, none⟩) m.ins.length ci) (.slice (some ⟨go, 0, none⟩) m.outs.length co)
          obtain ⟨u0, u1, u2, u3, u4, -⟩ := five_cells hh
          have h6 := H6.out
          refine bodyPost_ret (v := .tuple #[mcv m.bd.wd m.bd.hg (.slice (some ⟨g8, 0, none⟩) m.bd.ps.length gc8) (.slice (some ⟨gi, 0, none⟩) m.ins.length ci) (.slice (some ⟨go, 0, none⟩) m.outs.length co), .int .i64 0]) (by simp [results, Tryz.results40, go_sem, u0, u1, u2, u3, u4]) rfl ⟨_, _, _, rfl, ⟨?_, ?_, ?_⟩, ?_⟩
          · have h1 := own_kept HO89.out HGR.out (fun q hq => (HNE8.out q hq).1)
            show World.ownsRow _ _ _ _ _ (m.bd.ps.map (mvPc e d)).length _
            rw [List.length_map]
            exact own_mono (own_set5 h1 (fun q hq => (HNE8.out q hq).2.2) _ _ _ _ _) (by omega)
          · have h1 := own_kept HOI9.out HGR.out (fun q hq => HNE2.out q hq)
            rw [upTo_all] at h1
            show World.ownsRow _ _ _ _ _ (m.ins.map (mvPo e d)).length _
            rw [List.length_map]
            exact own_mono (own_set5 h1 (fun q hq e => by have h9 : some gi = some q := hq; cases h9; simp at e; omega) _ _ _ _ _) (by omega)
          · have h1 := HOW.out
            rw [upTo_all] at h1
            show World.ownsRow _ _ _ _ _ (m.outs.map (mvC e d)).length _
            rw [List.length_map]
            exact own_mono (own_set5 h1 (fun q hq e => by have h9 : some go = some q := hq; cases h9; simp at e; omega) _ _ _ _ _) (by omega)
          · have hbw2 := HBW.out
            exact bl_set5 hbw2 (by show w.heap.size ≤ w.heap.size + 1; omega) _ _ _ _ _
end Go.Proofs.YtmeefmoblkiebaaGreat
/- Contracts: PruneMachine (the program). -/
namespace Go.Proofs.YtmeefmoblkiebaaGreat
open Go.RowKit
set_option linter.unusedVariables false
set_option linter.unusedSimpArgs false
set_option maxHeartbeats 400000
set_option maxRecDepth 100000
def mcNone : Mc := ⟨⟨0, 0, []⟩, [], []⟩
noncomputable def prM (m : Mc) : Mc := if vMc m = true then (prVal m).m else mcNone
noncomputable def prC (m : Mc) : Int := if vMc m = true then ((prVal m).c : Int) else 0
/-- What pruning keeps of the state. -/
def prInv (m : Mc) (s : PrS) : Prop := vMc s.m = true ∧ s.m.ok ∧ s.m.ins = m.ins ∧ s.m.outs = m.outs ∧ s.m.bd.wd = m.bd.wd ∧ s.m.bd.hg = m.bd.hg ∧ s.m.bd.ps.length + s.c = m.bd.ps.length
theorem prInv_start (m : Mc) (h : vMc m = true) (hok : m.ok) : prInv m ⟨m, 0, 0⟩ := ⟨h, hok, rfl, rfl, rfl, rfl, rfl⟩
theorem prInv_step (m : Mc) (tabs : List Nat) (s : PrS) (h : prInv m s) (hi : s.i < s.m.bd.ps.length) : prInv m (prStep tabs s) := by
  unfold prStep
  split
  · rename_i hu
    have hv : vMc (woMc s.m s.i) = true := by unfold ulP at hu; rw [Bool.and_eq_true] at hu; exact hu.1
    obtain ⟨h1, h2, h3, h4, h5, h6, h7⟩ := h
    refine ⟨hv, woMc_ok _ _ h2, h3, h4, h5, h6, ?_⟩
    show (s.m.bd.ps.eraseIdx s.i).length + (s.c + 1) = _
    rw [List.length_eraseIdx, if_pos hi]
    omega
  · exact h
theorem prRun_end (tabs : List Nat) (s : PrS) (h : ¬ s.i < s.m.bd.ps.length) : ∀ n, prRun tabs n s = s
  | 0 => rfl
  | n + 1 => if_neg h
theorem prRun_step (tabs : List Nat) (n : Nat) (s : PrS) (h : s.i < s.m.bd.ps.length) : prRun tabs (n + 1) s = prRun tabs n (prStep tabs s) := if_pos h
theorem prStep_yes (tabs : List Nat) (s : PrS) (h : ulP s.m tabs s.i = true) : prStep tabs s = ⟨woMc s.m s.i, 0, s.c + 1⟩ := if_pos h
theorem prStep_no (tabs : List Nat) (s : PrS) (h : ulP s.m tabs s.i = false) : prStep tabs s = ⟨s.m, s.i + 1, s.c⟩ := if_neg (by simp [h])
theorem nilApart : Apart (.slice none 0 0) (.slice none 0 0) := ⟨fun k hk => (by cases hk), fun k hk => (by cases hk)⟩
theorem nilM (w : World) (base : Nat) : OwnM w base (.slice none 0 0) (.slice none 0 0) (.slice none 0 0) mcNone :=
  ⟨World.ownsRow_nil _ _ _ _, World.ownsRow_nil _ _ _ _, World.ownsRow_nil _ _ _ _, nilApart, nilApart, nilApart⟩
set_option maxHeartbeats 3200000 in
theorem pruneMachine_any (m : Mc) (v : Value) (w : World) (h : MVc w v m) (hok : m.ok) (hn : m.bd.ps.length ≤ 10000000) (hn1 : m.ins.length ≤ 10000000) (hn2 : m.outs.length ≤ 10000000) :
    Calls Tryz.prog 33 #[v] w fun e w' => ∃ s si so, e = .returned (.tuple #[mcv (prM m).bd.wd (prM m).bd.hg s si so, .int .i64 (prC m), .int .i64 (mCode m)]) ∧ OwnM w' w.heap.size s si so (prM m) ∧ Below w.heap.size w w' := by
  have HMT := Lib.hid (fun w1 (hb : Below w.heap.size w w1) => machineTables_any m v w1 (h.step hb) hok hn hn1 hn2)
  have HMV := Lib.hid (fun w1 (hb : Below w.heap.size w w1) => h.mv.step hb)
  obtain ⟨sa, scap, ia, icap, oa, ocap, rfl, hcap, hps, hins, houts⟩ := h
  have HBA := Lib.hid (show Below w.heap.size w (w.alloc (.cells #[.int .i8 m.bd.wd, .int .i8 m.bd.hg, .slice sa m.bd.ps.length scap, .slice ia m.ins.length icap, .slice oa m.outs.length ocap] 55)) from bl_alloc (Below.refl _ _))
  have HXB := Lib.hid (BX5.new w (.int .i8 m.bd.wd) (.int .i8 m.bd.hg) (.slice sa m.bd.ps.length scap) (.slice ia m.ins.length icap) (.slice oa m.outs.length ocap) 55)
  obtain ⟨wA, hwA⟩ : ∃ wA, wA = w.alloc (.cells #[.int .i8 m.bd.wd, .int .i8 m.bd.hg, .slice sa m.bd.ps.length scap, .slice ia m.ins.length icap, .slice oa m.outs.length ocap] 55) := ⟨_, rfl⟩
  have hzA : wA.heap.size = w.heap.size + 1 := by rw [hwA]; simp
  rw [← hwA] at HBA HXB
  have HWA := Lib.hid hwA
  have HBF := Lib.hid (BF5new wA (.int .i8 0) (.int .i8 0) (.slice none 0 0) (.slice none 0 0) (.slice none 0 0) 55)
  obtain ⟨bA, hbA⟩ : ∃ bA, bA = w.heap.size := ⟨_, rfl⟩
  rw [← hbA] at HXB
  have HbA := Lib.hid hbA
  have hbAl : bA < wA.heap.size := by omega
  have hbAz : bA + 1 = wA.heap.size := by omega
  have HBZ := Lib.hid hbAz
  have hwAz : w.heap.size ≤ wA.heap.size := by omega
  clear hwA hbA hbAz hps hins houts
  rcases Bool.eq_false_or_eq_true (vMc m) with g1 | g1
  · obtain ⟨hvb, h60, hi1, hi6, ho1, ho8, -⟩ := vMc_parts m g1
    have HC : Hid (mCode m = 0) := Lib.hid (by unfold mCode; rw [if_pos g1])
    have HL : Hid (mtList m = mTabI m) := Lib.hid (by unfold mtList; rw [if_pos g1])
    have HPM : Hid (prM m = (prVal m).m ∧ prC m = ((prVal m).c : Int)) := Lib.hid (by unfold prM prC; rw [if_pos g1, if_pos g1]; exact ⟨rfl, rfl⟩)
    rw [HC.out, HPM.out.1, HPM.out.2]
    rw [HC.out, HL.out] at HMT
    have HTE : Hid (mTabI m = (mTabs m).map (fun (n : Nat) => (n : Int))) := Lib.hid rfl
    have HTL : Hid ((mTabI m).length = (mTabs m).length) := Lib.hid (by rw [HTE.out, List.length_map])
    rw [HTL.out, HTE.out] at HMT
    have HT8 : (mTabs m).length ≤ 8 := by rw [mTabs_len]; exact ho8
    have HCL := Lib.hid (fun w1 (hb : Below w.heap.size w w1) => cloneMachine_any m _ w1 (HMV.out w1 hb) (by omega) (by omega) (by omega))
    have HR0 : Hid (prRun (mTabs m) 4000 ⟨m, 0, 0⟩ = prVal m) := Lib.hid rfl
    have HI0 := Lib.hid (prInv_start m g1 hok)
    obtain ⟨tabs, htabs⟩ : ∃ tabs, tabs = mTabs m := ⟨_, rfl⟩
    rw [← htabs] at HMT HT8 HR0
    obtain ⟨RV', hRV⟩ : ∃ RV', RV' = prVal m := ⟨_, rfl⟩
    rw [← hRV] at HR0 ⊢
    clear g1 HC HL HPM htabs HTE HTL hRV
    go_enter Tryz.func33, Tryz.ntmps33
    go_wp2_with fail
    rw [← HWA.out, ← HbA.out]
    obtain ⟨w2, hw2, hz2, hb2, x0, x1, x2, x3, x4, f0, f1, f2, f3, f4⟩ := HBF.out
    rw [← hw2]
    rw [HBZ.out]
    obtain ⟨g2, hg2⟩ : ∃ g2, g2 = wA.heap.size := ⟨_, rfl⟩
    rw [← hg2] at x0 x1 x2 x3 x4 f0 f1 f2 f3 f4 ⊢
    have hg2l : g2 < w2.heap.size := by omega
    have hg2w : w.heap.size ≤ g2 := by omega
    have B2 := Lib.hid (bl_trans HBA.out hb2)
    have HX2 := Lib.hid (And.intro x0 (And.intro x1 (And.intro x2 (And.intro x3 x4))))
    have HF2 := Lib.hid (And.intro f0 (And.intro f1 (And.intro f2 (And.intro f3 f4))))
    have HXB2 := Lib.hid (HXB.out.step hb2)
    clear hw2 hg2 hz2 hb2 x0 x1 x2 x3 x4 f0 f1 f2 f3 f4
    refine (HMT.out _ B2.out).mono ?_
    rintro e w3 ⟨v3, rfl, hown3, hb3⟩
    obtain ⟨a3, cap3, rfl, hsl3, -, -⟩ := own_at hown3
    have HS3 := Lib.hid hsl3
    have B23 := Lib.hid hb3
    have B3 := Lib.hid (bl_trans B2.out hb3)
    obtain ⟨X0, y0, y1, y2, y3, y4⟩ := HXB2.out.step hb3
    clear hown3 hsl3 hb3 HMT
    go_wp2_with fail
    refine (HCL.out _ B3.out).mono ?_
    rintro e w4 ⟨s4, si4, so4, rfl, OM4, hb4⟩
    obtain ⟨as4, cs4, rfl, -⟩ := own_at OM4.1
    obtain ⟨ai4, ci4, rfl, -⟩ := own_at OM4.2.1
    obtain ⟨ao4, co4, rfl, -⟩ := own_at OM4.2.2.1
    have B24 := Lib.hid (bl_trans B23.out hb4)
    have B34 := Lib.hid hb4
    have HOM4 := Lib.hid OM4
    have HBF5 := Lib.hid (BF5new w4 (.int .i8 m.bd.wd) (.int .i8 m.bd.hg) (.slice as4 m.bd.ps.length cs4) (.slice ai4 m.ins.length ci4) (.slice ao4 m.outs.length co4) 55)
    clear OM4 hb4 y0 y1 y2 y3 y4
    go_wp2
    obtain ⟨w5, hw5, hz5, hb5, x0, x1, x2, x3, x4, f0, f1, f2, f3, f4⟩ := HBF5.out
    rw [← hw5]
    obtain ⟨g7, hg7⟩ : ∃ g7, g7 = w4.heap.size := ⟨_, rfl⟩
    rw [← hg7] at x0 x1 x2 x3 x4 f0 f1 f2 f3 f4 ⊢
    have hg7l : g7 < w5.heap.size := by omega
    have hz24 := B24.out.size
    have hz34 := B34.out.size
    have hz23 := B23.out.size
    have hz02 := B2.out.size
    have hg7g : g2 < g7 := by omega
    have hg7w : w.heap.size ≤ g7 := by omega
    have hw3g : w3.heap.size ≤ g7 := by omega
    have HOM5 := Lib.hid (HOM4.out.below hb5)
    have HN5 : Hid ((∀ q, (Value.slice as4 m.bd.ps.length cs4).ownBlock = some q → q ≠ g7) ∧ (∀ q, (Value.slice ai4 m.ins.length ci4).ownBlock = some q → q < g7) ∧ (∀ q, (Value.slice ao4 m.outs.length co4).ownBlock = some q → q < g7)) := Lib.hid ⟨fun q hq => by have := (HOM4.out.1.lt q hq).2; omega, fun q hq => by have := (HOM4.out.2.1.lt q hq).2; omega, fun q hq => by have := (HOM4.out.2.2.1.lt q hq).2; omega⟩
    have HX5 := Lib.hid (And.intro (And.intro x0 (And.intro x1 (And.intro x2 (And.intro x3 x4)))) (And.intro f0 (And.intro f1 f2)))
    have B35 := Lib.hid (bl_trans B34.out hb5)
    clear hw5 hg7 hz5 hb5 x0 x1 x2 x3 x4 f0 f1 f2 f3 f4
    go_loopw [8, 9] (fun cx ix wr => ∃ (st : PrS) (fuel : Nat) (pa : Option Addr) (pc : Nat), cx = .int .i64 st.c ∧ ix = .int .i64 st.i ∧ Hid (prInv m st ∧ prMeas st ≤ fuel ∧ prRun tabs fuel st = RV') ∧ st.i ≤ st.m.bd.ps.length ∧ st.m.bd.ps.length + st.c = m.bd.ps.length ∧ st.m.bd.ps.length ≤ 60 ∧
       Hid ((wr.cell? ⟨g7, 0, none⟩ = some (.int .i8 m.bd.wd) ∧ wr.cell? ⟨g7, 1, none⟩ = some (.int .i8 m.bd.hg) ∧ wr.cell? ⟨g7, 2, none⟩ = some (.slice pa st.m.bd.ps.length pc) ∧ wr.cell? ⟨g7, 3, none⟩ = some (.slice ai4 m.ins.length ci4) ∧ wr.cell? ⟨g7, 4, none⟩ = some (.slice ao4 m.outs.length co4)) ∧ (wr.frozen? ⟨g7, 0, none⟩ = false ∧ wr.frozen? ⟨g7, 1, none⟩ = false ∧ wr.frozen? ⟨g7, 2, none⟩ = false)) ∧
       Hid (OwnM wr w3.heap.size (.slice pa st.m.bd.ps.length pc) (.slice ai4 m.ins.length ci4) (.slice ao4 m.outs.length co4) st.m) ∧ Hid (∀ q, (Value.slice pa st.m.bd.ps.length pc).ownBlock = some q → q ≠ g7) ∧ g7 < wr.heap.size ∧ Hid (Below w3.heap.size w3 wr)) (fun cx ix _ => (m.bd.ps.length - (intOf cx).toNat) * 62 + (m.bd.ps.length - (intOf cx).toNat - (intOf ix).toNat))
    case atStart => exact ⟨⟨m, 0, 0⟩, 4000, as4, cs4, rfl, rfl, Lib.hid ⟨HI0.out, by show m.bd.ps.length * 62 + (m.bd.ps.length - 0) ≤ 4000; omega, HR0.out⟩, Nat.zero_le _, rfl, h60, HX5, HOM5, Lib.hid HN5.out.1, hg7l, B35⟩
    case round =>
      obtain ⟨st, fuel, pa, pc, rfl, rfl, HI, hil, hlc, hl60, HX, HOM, HNP, hgw, HB⟩ := hrel
      obtain ⟨⟨c0, c1, c2, c3, c4⟩, f0, f1, f2⟩ := HX.out
      by_cases hlt : st.i < st.m.bd.ps.length
      · have hiI : (st.i : Int) < st.m.bd.ps.length := by omega
        have hmp : MP wr g7 st.m := by
          obtain ⟨j1, j2, j3, j4, j5, j6, j7⟩ := HI.out.1
          obtain ⟨o1, o2, o3, -⟩ := HOM.out
          exact mp_of hgw (by rw [j5]; exact c0) (by rw [j6]; exact c1) c2 c3 c4 (pv_own o1) (own_rv o2) (own_rv o3)
        have HUC := Lib.hid (useless_any g7 st.m st.i a3 cap3 tabs wr hmp HI.out.1.1 HI.out.1.2.1 hlt ((HS3.out.below HB.out (Nat.le_refl _)).mono HB.out.size) (by omega))
        have HLC := Lib.hid (fun w1 (hb : Below wr.heap.size wr w1) => less_any g7 st.m.bd st.i w1 (hmp.step hb).bp hlt (by omega))
        obtain ⟨f', hf'⟩ : ∃ f', fuel = f' + 1 := ⟨fuel - 1, by have h9 := HI.out.2.1; unfold prMeas at h9; omega⟩
        have HNX : Hid (prInv m (prStep tabs st) ∧ prMeas (prStep tabs st) ≤ f' ∧ prRun tabs f' (prStep tabs st) = RV') := Lib.hid ⟨prInv_step m tabs st HI.out.1 hlt, by have h9 := HI.out.2.1; have h8 := prMeas_step tabs st hlt hl60; omega, by rw [← HI.out.2.2, hf', prRun_step _ _ _ hlt]⟩
        clear hf' hmp
        go_wp2_with fail
        refine HUC.out.mono ?_
        rintro e w6 ⟨rfl, hb6⟩
        rcases Bool.eq_false_or_eq_true (ulP st.m tabs st.i) with gp | gp
        · rw [prStep_yes tabs st gp] at HNX
          have HOM6 := Lib.hid (HOM.out.below hb6)
          have HB6 := Lib.hid (bl_trans HB.out hb6)
          have hg6 : g7 < w6.heap.size := Nat.lt_of_lt_of_le hgw hb6.size
          have d0 : w6.cell? ⟨g7, 0, none⟩ = some (.int .i8 m.bd.wd) := by rw [hb6.cell (p := ⟨g7, 0, none⟩) hgw]; exact c0
          have d1 : w6.cell? ⟨g7, 1, none⟩ = some (.int .i8 m.bd.hg) := by rw [hb6.cell (p := ⟨g7, 1, none⟩) hgw]; exact c1
          have d2 : w6.cell? ⟨g7, 2, none⟩ = some (.slice pa st.m.bd.ps.length pc) := by rw [hb6.cell (p := ⟨g7, 2, none⟩) hgw]; exact c2
          have d3 : w6.cell? ⟨g7, 3, none⟩ = some (.slice ai4 m.ins.length ci4) := by rw [hb6.cell (p := ⟨g7, 3, none⟩) hgw]; exact c3
          have d4 : w6.cell? ⟨g7, 4, none⟩ = some (.slice ao4 m.outs.length co4) := by rw [hb6.cell (p := ⟨g7, 4, none⟩) hgw]; exact c4
          have k0 : w6.frozen? ⟨g7, 0, none⟩ = false := by rw [hb6.frozen (p := ⟨g7, 0, none⟩) hgw]; exact f0
          have k1 : w6.frozen? ⟨g7, 1, none⟩ = false := by rw [hb6.frozen (p := ⟨g7, 1, none⟩) hgw]; exact f1
          have k2 : w6.frozen? ⟨g7, 2, none⟩ = false := by rw [hb6.frozen (p := ⟨g7, 2, none⟩) hgw]; exact f2
          have HLC6 := Lib.hid (HLC.out w6 hb6)
          have HJ : Hid (st.m.ins = m.ins ∧ st.m.outs = m.outs ∧ st.m.bd.wd = m.bd.wd ∧ st.m.bd.hg = m.bd.hg) := Lib.hid ⟨HI.out.1.2.2.1, HI.out.1.2.2.2.1, HI.out.1.2.2.2.2.1, HI.out.1.2.2.2.2.2.1⟩
          rw [HJ.out.2.2.1, HJ.out.2.2.2] at HLC6
          have HLE : Hid ((woMc st.m st.i).bd.ps.length = (st.m.bd.ps.eraseIdx st.i).length ∧ (st.m.bd.ps.eraseIdx st.i).length = st.m.bd.ps.length - 1) := Lib.hid ⟨rfl, by rw [List.length_eraseIdx, if_pos hlt]⟩
          clear c0 c1 c2 c3 c4 f0 f1 f2 hb6 HUC
          go_wp2_with fail
          refine HLC6.out.mono ?_
          rintro e w7 ⟨vp, rfl, Op, hb7⟩
          obtain ⟨ap, cp, rfl, -⟩ := own_at Op
          have HAP := Lib.hid (And.intro (show Apart (.slice ap (st.m.bd.ps.eraseIdx st.i).length cp) (.slice ai4 m.ins.length ci4) from ⟨own_apart' HOM6.out.2.1 Op (Nat.le_refl _), own_apart HOM6.out.2.1 Op (Nat.le_refl _)⟩) (show Apart (.slice ap (st.m.bd.ps.eraseIdx st.i).length cp) (.slice ao4 m.outs.length co4) from ⟨own_apart' HOM6.out.2.2.1 Op (Nat.le_refl _), own_apart HOM6.out.2.2.1 Op (Nat.le_refl _)⟩))
          have e0 : w7.cell? ⟨g7, 0, none⟩ = some (.int .i8 m.bd.wd) := by rw [hb7.cell (p := ⟨g7, 0, none⟩) hg6]; exact d0
          have e1 : w7.cell? ⟨g7, 1, none⟩ = some (.int .i8 m.bd.hg) := by rw [hb7.cell (p := ⟨g7, 1, none⟩) hg6]; exact d1
          have e2 : w7.cell? ⟨g7, 2, none⟩ = some (.slice pa st.m.bd.ps.length pc) := by rw [hb7.cell (p := ⟨g7, 2, none⟩) hg6]; exact d2
          have e3 : w7.cell? ⟨g7, 3, none⟩ = some (.slice ai4 m.ins.length ci4) := by rw [hb7.cell (p := ⟨g7, 3, none⟩) hg6]; exact d3
          have e4 : w7.cell? ⟨g7, 4, none⟩ = some (.slice ao4 m.outs.length co4) := by rw [hb7.cell (p := ⟨g7, 4, none⟩) hg6]; exact d4
          have l0 : w7.frozen? ⟨g7, 0, none⟩ = false := by rw [hb7.frozen (p := ⟨g7, 0, none⟩) hg6]; exact k0
          have l1 : w7.frozen? ⟨g7, 1, none⟩ = false := by rw [hb7.frozen (p := ⟨g7, 1, none⟩) hg6]; exact k1
          have l2 : w7.frozen? ⟨g7, 2, none⟩ = false := by rw [hb7.frozen (p := ⟨g7, 2, none⟩) hg6]; exact k2
          have HOM7 := Lib.hid (HOM6.out.below hb7)
          have hg7' : g7 < w7.heap.size := Nat.lt_of_lt_of_le hg6 hb7.size
          have HOP := Lib.hid Op
          have HB7 := Lib.hid (bl_trans HB6.out hb7)
          have hzs : w3.heap.size ≤ w6.heap.size := HB6.out.size
          clear d0 d1 d2 d3 d4 k0 k1 k2 hb7 Op HLC6 HLC
          go_wp2
          have HW : Hid ((let W := ((w7.setCell ⟨g7, 0, none⟩ (.int .i8 m.bd.wd)).setCell ⟨g7, 1, none⟩ (.int .i8 m.bd.hg)).setCell ⟨g7, 2, none⟩ (.slice ap (st.m.bd.ps.eraseIdx st.i).length cp); (W.cell? ⟨g7, 0, none⟩ = some (.int .i8 m.bd.wd) ∧ W.cell? ⟨g7, 1, none⟩ = some (.int .i8 m.bd.hg) ∧ W.cell? ⟨g7, 2, none⟩ = some (.slice ap (st.m.bd.ps.eraseIdx st.i).length cp) ∧ W.cell? ⟨g7, 3, none⟩ = some (.slice ai4 m.ins.length ci4) ∧ W.cell? ⟨g7, 4, none⟩ = some (.slice ao4 m.outs.length co4)) ∧ (W.frozen? ⟨g7, 0, none⟩ = false ∧ W.frozen? ⟨g7, 1, none⟩ = false ∧ W.frozen? ⟨g7, 2, none⟩ = false))) := Lib.hid (by simp [go_sem, e0, e1, e2, e3, e4, l0, l1, l2])
          have HOW : Hid (OwnM (((w7.setCell ⟨g7, 0, none⟩ (.int .i8 m.bd.wd)).setCell ⟨g7, 1, none⟩ (.int .i8 m.bd.hg)).setCell ⟨g7, 2, none⟩ (.slice ap (st.m.bd.ps.eraseIdx st.i).length cp)) w3.heap.size (.slice ap (st.m.bd.ps.eraseIdx st.i).length cp) (.slice ai4 m.ins.length ci4) (.slice ao4 m.outs.length co4) (woMc st.m st.i)) := Lib.hid (by
            refine ⟨?_, ?_, ?_, HAP.out.1, HAP.out.2, HOM7.out.2.2.2.2.2⟩
            · refine own_mono (base' := w6.heap.size) ?_ hzs
              repeat (with_reducible refine ownsRow_setCell_below ?_ (by first | (simp; done) | (simp; omega)) _)
              exact HOP.out
            · repeat (with_reducible refine own_setNe ?_ _ _ _ (fun q hq => by have := HN5.out.2.1 q hq; omega))
              exact HOM7.out.2.1
            · repeat (with_reducible refine own_setNe ?_ _ _ _ (fun q hq => by have := HN5.out.2.2 q hq; omega))
              exact HOM7.out.2.2.1)
          have hle := HLE.out.2
          go_roundw
          case rel => exact ⟨⟨woMc st.m st.i, 0, st.c + 1⟩, f', ap, cp, by go_num, rfl, HNX, Nat.zero_le _, by show (st.m.bd.ps.eraseIdx st.i).length + (st.c + 1) = _; omega, by show (st.m.bd.ps.eraseIdx st.i).length ≤ 60; omega, HW, HOW, Lib.hid (fun q hq => by have := (HOP.out.lt q hq).1; omega), by simp; omega, Lib.hid (bl_set (bl_set (bl_set HB7.out hw3g _) hw3g _) hw3g _)⟩
          case measure => simp [intOf]; omega
        · rw [prStep_no tabs st gp] at HNX
          have HOM6 := Lib.hid (HOM.out.below hb6)
          have HB6 := Lib.hid (bl_trans HB.out hb6)
          have HX6 : Hid ((w6.cell? ⟨g7, 0, none⟩ = some (.int .i8 m.bd.wd) ∧ w6.cell? ⟨g7, 1, none⟩ = some (.int .i8 m.bd.hg) ∧ w6.cell? ⟨g7, 2, none⟩ = some (.slice pa st.m.bd.ps.length pc) ∧ w6.cell? ⟨g7, 3, none⟩ = some (.slice ai4 m.ins.length ci4) ∧ w6.cell? ⟨g7, 4, none⟩ = some (.slice ao4 m.outs.length co4)) ∧ (w6.frozen? ⟨g7, 0, none⟩ = false ∧ w6.frozen? ⟨g7, 1, none⟩ = false ∧ w6.frozen? ⟨g7, 2, none⟩ = false)) := Lib.hid (by
            obtain ⟨hc, hf⟩ := bcell hb6
            rw [hc _ _ hgw, hc _ _ hgw, hc _ _ hgw, hc _ _ hgw, hc _ _ hgw, hf _ _ hgw, hf _ _ hgw, hf _ _ hgw]
            exact HX.out)
          have hg6 : g7 < w6.heap.size := Nat.lt_of_lt_of_le hgw hb6.size
          clear c0 c1 c2 c3 c4 f0 f1 f2 hb6 HUC
          go_wp2
          go_roundw
          case rel => exact ⟨⟨st.m, st.i + 1, st.c⟩, f', pa, pc, rfl, by go_num, HNX, hlt, hlc, hl60, HX6, HOM6, HNP, hg6, HB6⟩
          case measure => simp [intOf]; omega
      · have hiI : ¬ (st.i : Int) < st.m.bd.ps.length := by omega
        have HE : Hid (RV' = st) := Lib.hid (by rw [← HI.out.2.2]; exact prRun_end tabs st hlt fuel)
        have HJ : Hid (st.m.bd.wd = m.bd.wd ∧ st.m.bd.hg = m.bd.hg) := Lib.hid ⟨HI.out.1.2.2.2.2.1, HI.out.1.2.2.2.2.2.1⟩
        have B2r := Lib.hid (bl_trans B23.out HB.out)
        obtain ⟨hcr, hfr⟩ := bcell B2r.out
        obtain ⟨u0, u1, u2, u3, u4⟩ := HX2.out
        obtain ⟨v0, v1, v2, v3, v4⟩ := HF2.out
        rw [← hcr _ _ hg2l] at u0 u1 u2 u3 u4
        rw [← hfr _ _ hg2l] at v0 v1 v2 v3 v4
        have hzz := B2.out.size
        have hne : g2 ≠ g7 := by omega
        clear hcr hfr
        go_wp2
        refine bodyPost_ret (v := .tuple #[mcv m.bd.wd m.bd.hg (.slice pa st.m.bd.ps.length pc) (.slice ai4 m.ins.length ci4) (.slice ao4 m.outs.length co4), .int .i64 st.c, .int .i64 0]) (by simp [results, Tryz.results33, go_sem, u0, u1, u2, u3, u4]) rfl ⟨_, _, _, by rw [HE.out, HJ.out.1, HJ.out.2], ?_, ?_⟩
        · rw [HE.out]
          obtain ⟨o1, o2, o3, o4⟩ := HOM.out
          have hz3 : w2.heap.size ≤ w3.heap.size := B23.out.size
          refine ⟨?_, ?_, ?_, o4⟩
          · refine own_mono (base' := w3.heap.size) ?_ (by omega)
            repeat (with_reducible refine ownsRow_setCell_below ?_ (by first | (simp; done) | (simp; omega)) _)
            exact o1
          · refine own_mono (base' := w3.heap.size) ?_ (by omega)
            repeat (with_reducible refine ownsRow_setCell_below ?_ (by first | (simp; done) | (simp; omega)) _)
            exact o2
          · refine own_mono (base' := w3.heap.size) ?_ (by omega)
            repeat (with_reducible refine ownsRow_setCell_below ?_ (by first | (simp; done) | (simp; omega)) _)
            exact o3
        · exact bl_set (bl_set (bl_set (bl_set (bl_set (bl_trans B3.out HB.out) hg2w _) hg2w _) hg2w _) hg2w _) hg2w _
  · have HC : Hid (mCode m = 1) := Lib.hid (by unfold mCode; rw [if_neg (by simp [g1])])
    have HPM : Hid (prM m = mcNone ∧ prC m = 0) := Lib.hid (by unfold prM prC; rw [if_neg (by simp [g1]), if_neg (by simp [g1])]; exact ⟨rfl, rfl⟩)
    rw [HC.out, HPM.out.1, HPM.out.2]
    rw [HC.out] at HMT
    clear g1 HC HPM
    go_enter Tryz.func33, Tryz.ntmps33
    go_wp2_with fail
    rw [← HWA.out, ← HbA.out]
    obtain ⟨w2, hw2, hz2, hb2, x0, x1, x2, x3, x4, f0, f1, f2, f3, f4⟩ := HBF.out
    rw [← hw2]
    rw [HBZ.out]
    obtain ⟨g2, hg2⟩ : ∃ g2, g2 = wA.heap.size := ⟨_, rfl⟩
    rw [← hg2] at x0 x1 x2 x3 x4 f0 f1 f2 f3 f4 ⊢
    have hg2l : g2 < w2.heap.size := by omega
    have hg2w : w.heap.size ≤ g2 := by omega
    have B2 := Lib.hid (bl_trans HBA.out hb2)
    have HX2 := Lib.hid (And.intro x0 (And.intro x1 (And.intro x2 (And.intro x3 x4))))
    have HF2 := Lib.hid (And.intro f0 (And.intro f1 (And.intro f2 (And.intro f3 f4))))
    clear hw2 hg2 hz2 hb2 x0 x1 x2 x3 x4 f0 f1 f2 f3 f4
    refine (HMT.out _ B2.out).mono ?_
    rintro e w3 ⟨v3, rfl, -, hb3⟩
    obtain ⟨hcr, hfr⟩ := bcell hb3
    obtain ⟨u0, u1, u2, u3, u4⟩ := HX2.out
    obtain ⟨v0, v1, v2, v3, v4⟩ := HF2.out
    rw [← hcr _ _ hg2l] at u0 u1 u2 u3 u4
    rw [← hfr _ _ hg2l] at v0 v1 v2 v3 v4
    have B3 := Lib.hid (bl_trans B2.out hb3)
    clear hcr hfr hb3
    go_wp2
    refine bodyPost_ret (v := .tuple #[mcv 0 0 (.slice none 0 0) (.slice none 0 0) (.slice none 0 0), .int .i64 0, .int .i64 1]) (by simp [results, Tryz.results33, go_sem, u0, u1, u2, u3, u4]) rfl ⟨_, _, _, rfl, nilM _ _, ?_⟩
    exact bl_set (bl_set (bl_set (bl_set (bl_set B3.out hg2w _) hg2w _) hg2w _) hg2w _) hg2w _
end Go.Proofs.YtmeefmoblkiebaaGreat
/- What pruning leaves: plain law of FnPruned. -/
namespace Go.Proofs.YtmeefmoblkiebaaGreat
open Go.RowKit
set_option linter.unusedVariables false
set_option linter.unusedSimpArgs false
set_option maxHeartbeats 400000
set_option maxRecDepth 100000
structure PrI (m : Mc) (tabs : List Nat) (s : PrS) : Prop where
  v : vMc s.m = true
  t : mTabs s.m = tabs
  ok : s.m.ok
  ins : s.m.ins = m.ins
  outs : s.m.outs = m.outs
  wd : s.m.bd.wd = m.bd.wd
  hg : s.m.bd.hg = m.bd.hg
  len : s.m.bd.ps.length + s.c = m.bd.ps.length
  no : ∀ j, j < s.i → j < s.m.bd.ps.length → ulP s.m tabs j = false
  c0 : s.c = 0 → s.m = m
theorem prI_start (m : Mc) (hv : vMc m = true) (hok : m.ok) : PrI m (mTabs m) ⟨m, 0, 0⟩ :=
  ⟨hv, rfl, hok, rfl, rfl, rfl, rfl, rfl, fun j hj => absurd hj (by simp), fun _ => rfl⟩
theorem prI_step (m : Mc) (tabs : List Nat) (s : PrS) (h : PrI m tabs s) (hi : s.i < s.m.bd.ps.length) : PrI m tabs (prStep tabs s) := by
  unfold prStep
  by_cases hu : ulP s.m tabs s.i = true
  · rw [if_pos hu]
    have hu2 := hu
    unfold ulP at hu2
    rw [Bool.and_eq_true, decide_eq_true_eq] at hu2
    refine ⟨hu2.1, hu2.2, woMc_ok s.m s.i h.ok, h.ins, h.outs, h.wd, h.hg, ?_, fun j hj => absurd hj (by simp), fun e => absurd e (by simp)⟩
    show (s.m.bd.ps.eraseIdx s.i).length + (s.c + 1) = _
    rw [List.length_eraseIdx, if_pos hi]
    have := h.len
    omega
  · rw [if_neg hu]
    have hf : ulP s.m tabs s.i = false := by simpa using hu
    refine ⟨h.v, h.t, h.ok, h.ins, h.outs, h.wd, h.hg, h.len, ?_, h.c0⟩
    intro j hj hjl
    by_cases e : j = s.i
    · subst e; exact hf
    · exact h.no j (by have : j < s.i + 1 := hj; omega) hjl
theorem prI_run (m : Mc) (tabs : List Nat) : ∀ (n : Nat) (s : PrS), PrI m tabs s → s.m.bd.ps.length ≤ 60 → prMeas s ≤ n → PrI m tabs (prRun tabs n s) ∧ (prRun tabs n s).m.bd.ps.length ≤ (prRun tabs n s).i := by
  intro n
  induction n with
  | zero =>
    intro s h _ hm
    refine ⟨h, ?_⟩
    show s.m.bd.ps.length ≤ s.i
    unfold prMeas at hm
    omega
  | succ n ih =>
    intro s h h60 hm
    unfold prRun
    by_cases hi : s.i < s.m.bd.ps.length
    · rw [if_pos hi]
      have hs := prI_step m tabs s h hi
      have hd := prMeas_step tabs s hi h60
      refine ih _ hs ?_ (by omega)
      have h1 := (vMc_parts _ hs.v).2.1
      exact h1
    · rw [if_neg hi]
      exact ⟨h, by omega⟩
theorem prV (m : Mc) (hv : vMc m = true) (hok : m.ok) : PrI m (mTabs m) (prVal m) ∧ (prVal m).m.bd.ps.length ≤ (prVal m).i := by
  have h60 := (vMc_parts m hv).2.1
  refine prI_run m (mTabs m) 4000 ⟨m, 0, 0⟩ (prI_start m hv hok) h60 ?_
  show m.bd.ps.length * 62 + (m.bd.ps.length - 0) ≤ 4000
  omega
theorem hzTo_nil (p : Nat → Bool) (n : Nat) (h : ∀ j, j < n → p j = false) : hzTo p n = [] := by
  unfold hzTo
  rw [List.map_eq_nil_iff, List.filter_eq_nil_iff]
  intro j hj
  rw [h j (List.mem_range.1 hj)]
  simp
theorem hzTo_none (p : Nat → Bool) (n : Nat) (h : hzTo p n = []) : ∀ j, j < n → p j = false := by
  intro j hj
  unfold hzTo at h
  rw [List.map_eq_nil_iff, List.filter_eq_nil_iff] at h
  have := h j (List.mem_range.2 hj)
  simpa using this
/-- Nothing is left that is useless. -/
theorem pr_none (m : Mc) (hv : vMc m = true) (hok : m.ok) : ulList (prVal m).m = [] := by
  obtain ⟨h, hi⟩ := prV m hv hok
  unfold ulList
  rw [if_pos h.v, h.t]
  exact hzTo_nil _ _ (fun j hj => h.no j (by omega) hj)
theorem pr_keep (m : Mc) (tabs : List Nat) (hno : ∀ j, j < m.bd.ps.length → ulP m tabs j = false) : ∀ (n i : Nat), (prRun tabs n ⟨m, i, 0⟩).c = 0 := by
  intro n
  induction n with
  | zero => intro i; rfl
  | succ n ih =>
    intro i
    unfold prRun
    by_cases hi : i < m.bd.ps.length
    · rw [if_pos hi]
      unfold prStep
      rw [if_neg (by rw [hno i hi]; simp)]
      exact ih (i + 1)
    · rw [if_neg hi]
theorem pr_zero (m : Mc) (hv : vMc m = true) (hok : m.ok) : (ulList m).length = 0 ↔ (prVal m).c = 0 := by
  constructor
  · intro h
    have h0 := List.eq_nil_of_length_eq_zero h
    unfold ulList at h0
    rw [if_pos hv] at h0
    exact pr_keep m (mTabs m) (hzTo_none _ _ h0) 4000 0
  · intro h
    have h1 := (prV m hv hok).1.c0 h
    have h2 := pr_none m hv hok
    rw [h1] at h2
    rw [h2]; rfl
end Go.Proofs.YtmeefmoblkiebaaGreat
