import Derived.Test.YtmeefmoblkiebaaK3
import Derived.Deep.RegionHeld3
import Derived.Deep.CutRange
import Derived.Deep.WholeRow
import Derived.BigQuiet
/- Contracts: numbers and chances from the source of choices. -/
namespace Go.Proofs.Ytmeefmoblkiebaa
open Go.RowKit
set_option linter.unusedVariables false
set_option linter.unusedSimpArgs false
set_option maxHeartbeats 400000
set_option maxRecDepth 100000
theorem pick_any (p : Nat) (code : List Int) (k : Nat) (w : World) (n : Int) (hs : SrcAt w p code k) (hc : BytesOk code) (hk : k ≤ 900000) (hn : n ≤ 1000000) :
    Calls Try.prog 29 #[.pointer (some ⟨p, 0, none⟩), .int .i64 n] w fun e w' => ∃ v : Int, e = .returned (.int .i64 v) ∧ 0 ≤ v ∧ v < max n 1 ∧ SrcAt w' p code (k + 2) ∧ w.grownBy w' (some p) := by
  rcases dec_cases (n ≤ 1) with ⟨g1, g2⟩ | ⟨g1, g2⟩
  · go_enter Try.func29, Try.ntmps29
    go_wp2
    go_ret
    exact ⟨0, rfl, by omega, by omega, hs.le (by omega), ⟨rfl, rfl, rfl, Nat.le_refl _, fun _ _ _ => rfl⟩⟩
  · rcases dec_cases (n > 200) with ⟨g3, g4⟩ | ⟨g3, g4⟩
    · go_enter Try.func29, Try.ntmps29
      go_wp2_with fail
      refine (srcNext_any p code k w hs hc (by omega)).mono ?_
      rintro e w1 ⟨x, rfl, x0, x1, hs1, hg1⟩
      have N2 := Lib.hid (srcNext_any p code (k + 1) w1 hs1 hc (by omega))
      have e1 : IntKind.i64.wrap (x * 256) = x * 256 := wrap_i64' _ (by omega) (by omega)
      clear hs hs1
      go_wp2_with fail
      refine N2.out.mono ?_
      rintro e w2 ⟨y, rfl, y0, y1, hs2, hg2⟩
      have e2 : IntKind.i64.wrap (x * 256 + y) = x * 256 + y := wrap_i64' _ (by omega) (by omega)
      go_wp2
      go_ret
      exact ⟨_, rfl, Int.emod_nonneg _ (by omega), Int.lt_of_lt_of_le (Int.emod_lt_of_pos _ (by omega)) (by omega), hs2, grown_trans hg1 hg2⟩
    · go_enter Try.func29, Try.ntmps29
      go_wp2_with fail
      refine (srcNext_any p code k w hs hc (by omega)).mono ?_
      rintro e w1 ⟨x, rfl, x0, x1, hs1, hg1⟩
      go_wp2
      go_ret
      exact ⟨_, rfl, Int.emod_nonneg _ (by omega), Int.lt_of_lt_of_le (Int.emod_lt_of_pos _ (by omega)) (by omega), hs1.le (by omega), hg1⟩
theorem one_any (p : Nat) (code : List Int) (k : Nat) (w : World) (n : Int) (hs : SrcAt w p code k) (hc : BytesOk code) (hk : k ≤ 900000) (hn : n ≤ 1000000) :
    Calls Try.prog 30 #[.pointer (some ⟨p, 0, none⟩), .int .i64 n] w fun e w' => ∃ v : Bool, e = .returned (.bool v) ∧ SrcAt w' p code (k + 2) ∧ w.grownBy w' (some p) := by
  go_enter Try.func30, Try.ntmps30
  go_wp2_with fail
  refine (pick_any p code k w n hs hc hk hn).mono ?_
  rintro e w1 ⟨x, rfl, x0, x1, hs1, hg1⟩
  obtain ⟨v, hv⟩ : ∃ v, v = (x == 0) := ⟨_, rfl⟩
  go_wp2
  go_ret
  exact ⟨_, rfl, hs1, hg1⟩
end Go.Proofs.Ytmeefmoblkiebaa
/- Contracts: a piece that is drawn. -/
namespace Go.Proofs.Ytmeefmoblkiebaa
open Go.RowKit
set_option linter.unusedVariables false
set_option linter.unusedSimpArgs false
set_option maxHeartbeats 400000
set_option maxRecDepth 100000
theorem grown_refl (w : World) (row : Option Nat) : w.grownBy w row := ⟨rfl, rfl, rfl, Nat.le_refl _, fun _ _ _ => rfl⟩
theorem grownS_drewN {a w : World} {row : Option Nat} (h : a.grownBy w row) (n : Nat) : a.grownBy (w.drewN n) row := grown_trans h ⟨rfl, rfl, rfl, Nat.le_refl _, fun _ _ _ => rfl⟩
theorem grownS_drew {a w : World} {row : Option Nat} (h : a.grownBy w row) : a.grownBy w.drew row := grown_trans h ⟨rfl, rfl, rfl, Nat.le_refl _, fun _ _ _ => rfl⟩
theorem SrcAt.drewN {w : World} {p : Nat} {code : List Int} {k : Nat} (h : SrcAt w p code k) {n : Nat} : SrcAt (w.drewN n) p code k := h.grown (row := none) ⟨rfl, rfl, rfl, Nat.le_refl _, fun _ _ _ => rfl⟩ (fun g e => by cases e)
theorem SrcAt.drew {w : World} {p : Nat} {code : List Int} {k : Nat} (h : SrcAt w p code k) : SrcAt w.drew p code k := h.grown (row := none) ⟨rfl, rfl, rfl, Nat.le_refl _, fun _ _ _ => rfl⟩ (fun g e => by cases e)
theorem SrcAt.alloc {w : World} {p : Nat} {code : List Int} {k : Nat} (h : SrcAt w p code k) {o : Obj} : SrcAt (w.alloc o) p code k := h.step (Below.alloc (Below.refl w.heap.size w) (Nat.le_refl _) _) h.lt
theorem grownS_alloc {a w : World} {row : Option Nat} (h : a.grownBy w row) (o : Obj) : a.grownBy (w.alloc o) row := grown_trans h (World.grownBy_alloc w o row)
theorem ext_g {w w' : World} {p b : Nat} (h : w.grownBy w' (some p)) (hb : b < w.heap.size) (hp : b ≠ p) : w.grownBy w' (some p) ∧ ∀ o, w'.cell? ⟨b, o, none⟩ = w.cell? ⟨b, o, none⟩ :=
  ⟨h, fun o => World.cell?_of_block (a := ⟨b, o, none⟩) (h.block b hb (fun e => hp (by simpa using e)))⟩
theorem five_cells {w : World} {b : Nat} {v0 v1 v2 v3 v4 : Value} {T : TypeId} (h : w.heap[b]? = some (.cells #[v0, v1, v2, v3, v4] T (0, 0))) :
    w.cell? ⟨b, 0, none⟩ = some v0 ∧ w.cell? ⟨b, 1, none⟩ = some v1 ∧ w.cell? ⟨b, 2, none⟩ = some v2 ∧ w.cell? ⟨b, 3, none⟩ = some v3 ∧ w.cell? ⟨b, 4, none⟩ = some v4 ∧
    w.frozen? ⟨b, 0, none⟩ = false ∧ w.frozen? ⟨b, 1, none⟩ = false ∧ w.frozen? ⟨b, 2, none⟩ = false ∧ w.frozen? ⟨b, 3, none⟩ = false ∧ w.frozen? ⟨b, 4, none⟩ = false := by
  refine ⟨by simp [World.cell?, h], by simp [World.cell?, h], by simp [World.cell?, h], by simp [World.cell?, h], by simp [World.cell?, h], by simp [World.frozen?, h], by simp [World.frozen?, h], by simp [World.frozen?, h], by simp [World.frozen?, h], by simp [World.frozen?, h]⟩
theorem alloc_kept {u w2 : World} {o : Obj} {p : Nat} (h : (u.alloc o).grownBy w2 (some p)) (hp : p < u.heap.size) : w2.heap[u.heap.size]? = some o := by
  rw [h.block u.heap.size (by simp) (fun e => by simp at e; omega)]
  exact heap_alloc_new _ _
theorem grown_new {w w2 w3 : World} {p b : Nat} (h : w.grownBy w2 (some p)) (k : w2.grownBy w3 (some b)) (hb : w.heap.size ≤ b) : w.grownBy w3 (some p) :=
  ⟨k.os.trans h.os, k.tape.trans h.tape, k.output.trans h.output, Nat.le_trans h.size k.size, fun i hi hne => (k.block i (Nat.lt_of_lt_of_le hi h.size) (fun e => by simp at e; omega)).trans (h.block i hi hne)⟩
theorem grown_setNew {a w : World} {p b o : Nat} (h : a.grownBy w (some p)) (hb : a.heap.size ≤ b) (u : Value) : a.grownBy (w.setCell ⟨b, o, none⟩ u) (some p) := grown_new h (grown_set1 w b o u) hb
theorem alloc_keptD {u w2 : World} {o : Obj} {p : Nat} (h : (u.alloc o).drew.grownBy w2 (some p)) (hp : p < u.heap.size) : w2.heap[u.heap.size]? = some o := alloc_kept (grown_trans (grownS_drew (grown_refl (u.alloc o) (some p))) h) hp
theorem gcell {u w : World} {p : Nat} (h : u.grownBy w (some p)) : (∀ b o, b < u.heap.size → p < b → w.cell? ⟨b, o, none⟩ = u.cell? ⟨b, o, none⟩) ∧ (∀ b o, b < u.heap.size → p < b → w.frozen? ⟨b, o, none⟩ = u.frozen? ⟨b, o, none⟩) := by
  have key : ∀ b, b < u.heap.size → p < b → w.heap[b]? = u.heap[b]? := fun b hb hp => h.block b hb (fun e => by simp at e; omega)
  exact ⟨fun b o hb hp => by simp [World.cell?, key b hb hp], fun b o hb hp => by simp [World.frozen?, key b hb hp]⟩
theorem set_block {w : World} {b : Nat} {c : Array Value} {T : TypeId} (h : w.heap[b]? = some (.cells c T (0, 0))) (o : Nat) (u : Value) : (w.setCell ⟨b, o, none⟩ u).heap[b]? = some (.cells (c.setIfInBounds o u) T (0, 0)) := by
  have hlt := lt_of_block h
  have h' : w.heap[b] = .cells c T (0, 0) := by simpa [Array.getElem?_eq_getElem hlt] using h
  show (w.heap.modify b _)[b]? = _
  rw [Array.getElem?_eq_getElem (by simpa using hlt), Array.getElem_modify_self, h']
  rfl
theorem five_set {w : World} {b : Nat} {v0 v1 v2 v3 v4 : Value} {T : TypeId} (h : w.heap[b]? = some (.cells #[v0, v1, v2, v3, v4] T (0, 0))) (u0 u1 u2 u3 u4 : Value) :
    (((((w.setCell ⟨b, 0, none⟩ u0).setCell ⟨b, 1, none⟩ u1).setCell ⟨b, 2, none⟩ u2).setCell ⟨b, 3, none⟩ u3).setCell ⟨b, 4, none⟩ u4).heap[b]? = some (.cells #[u0, u1, u2, u3, u4] T (0, 0)) :=
  set_block (set_block (set_block (set_block (set_block h 0 u0) 1 u1) 2 u2) 3 u3) 4 u4
theorem SrcAt.setNew {w : World} {p b o : Nat} {code : List Int} {k : Nat} (h : SrcAt w p code k) (hb : p < b) (u : Value) : SrcAt (w.setCell ⟨b, o, none⟩ u) p code k := h.grown (row := some b) (grown_set1 w b o u) (fun g e => by cases e; exact hb)
theorem w8b {x m : Int} (h0 : 0 ≤ x) (h1 : x < m) (hm : m ≤ 100) : 0 ≤ IntKind.i8.wrap x ∧ IntKind.i8.wrap x < m := by
  simp [IntKind.wrap, IntKind.bits, IntKind.signed]; omega
theorem fin_piece {W wx : World} {p k b : Nat} {code : List Int} {v0 v1 v4 : Value} {x y : Int} {T : TypeId} (h : wx.heap[b]? = some (.cells #[v0, v1, .int .i8 x, .int .i8 y, v4] T (0, 0))) (hb : W.heap.size ≤ b) (hx : 0 ≤ x ∧ x ≤ 5) (hy : 0 ≤ y ∧ y ≤ 3) (hs : SrcAt wx p code k) (hg : W.grownBy wx (some p)) :
    ∃ (b' : Nat) (x y : Int), Value.pointer (some ⟨b, 0, none⟩) = .pointer (some ⟨b', 0, none⟩) ∧ W.heap.size ≤ b' ∧ wx.heap[b']? = some (.cells #[v0, v1, .int .i8 x, .int .i8 y, v4] T (0, 0)) ∧ (0 ≤ x ∧ x ≤ 5) ∧ (0 ≤ y ∧ y ≤ 3) ∧ SrcAt wx p code k ∧ W.grownBy wx (some p) :=
  ⟨b, x, y, rfl, hb, h, hx, hy, hs, hg⟩
set_option maxHeartbeats 1600000 in
theorem l01PieceDrawn_any (p : Nat) (code : List Int) (k : Nat) (w : World) (c : Ce) (hs : SrcAt w p code k) (hc : BytesOk code) (hk : k ≤ 800000) (hco : c.ok) :
    Calls Try.prog 31 #[.pointer (some ⟨p, 0, none⟩), c.val] w fun e w' => ∃ P : Pc, e = .returned P.val ∧ P.x = c.x ∧ P.y = c.y ∧ 0 ≤ P.k ∧ P.k ≤ 5 ∧ 0 ≤ P.t ∧ P.t ≤ 3 ∧ 1 ≤ P.d ∧ P.d ≤ 4 ∧ SrcAt w' p code (k + 8) ∧ w.grownBy w' (some p) := by
  have hlt := hs.lt
  obtain ⟨cx, cy⟩ := c
  obtain ⟨W, hW⟩ : ∃ W, W = (w.alloc (.cells #[.int .i8 cx, .int .i8 cy] 62)).alloc (.cells #[.int .i8 0, .int .i8 0, .int .i8 0, .int .i8 0, .int .i8 0] 64) := ⟨_, rfl⟩
  have hWs : W.heap.size = w.heap.size + 2 := by rw [hW]; simp
  have hpW : p < W.heap.size := by omega
  have hWg : w.grownBy W (some p) := by rw [hW]; exact grownS_alloc (grownS_alloc (grown_refl _ _) _) _
  have hsW : SrcAt W p code k := by rw [hW]; exact hs.step (Below.alloc (Below.alloc (Below.refl w.heap.size w) (Nat.le_refl _) _) (by simp) _) hlt
  have hx0 : W.cell? ⟨w.heap.size, 0, none⟩ = some (.int .i8 cx) := by rw [hW]; simp [go_sem]
  have hx1 : W.cell? ⟨w.heap.size, 1, none⟩ = some (.int .i8 cy) := by rw [hW]; simp [go_sem]
  have hWq : W.heap[w.heap.size + 1]? = some (.cells #[.int .i8 0, .int .i8 0, .int .i8 0, .int .i8 0, .int .i8 0] 64 (0, 0)) := by
    rw [hW]
    have := heap_alloc_new (w.alloc (.cells #[.int .i8 cx, .int .i8 cy] 62)) (.cells #[.int .i8 0, .int .i8 0, .int .i8 0, .int .i8 0, .int .i8 0] 64)
    simpa using this
  have HP := Lib.hid (fun w' j (h : SrcAt w' p code j) (hj : j ≤ 900000) (n : Int) (hn : n ≤ 1000000) => pick_any p code j w' n h hc hj hn)
  go_enter Try.func31, Try.ntmps31
  go_wp2_with fail
  rw [← hW]
  clear hW
  have hWl : w.heap.size + 1 < W.heap.size := by omega
  have HWq := Lib.hid hWq
  clear hWs hWq
  go_cut [5] from 6 to 13 (fun s5 wx => ∃ (b : Nat) (x y : Int), s5 = .pointer (some ⟨b, 0, none⟩) ∧ W.heap.size ≤ b ∧ wx.heap[b]? = some (.cells #[.int .i8 cx, .int .i8 cy, .int .i8 x, .int .i8 y, .int .i8 1] 64 (0, 0)) ∧ (0 ≤ x ∧ x ≤ 5) ∧ (0 ≤ y ∧ y ≤ 3) ∧ SrcAt wx p code (k + 4) ∧ W.grownBy wx (some p))
  case first =>
    go_region_held3 (fun w' => W.grownBy w' (some p) ∧ ∀ o, w'.cell? ⟨w.heap.size, o, none⟩ = W.cell? ⟨w.heap.size, o, none⟩) ((refine ext_g ?_ (by omega) (by omega); exact (by repeat (first | with_reducible exact grown_refl _ _ | with_reducible assumption | with_reducible apply grownS_drewN | with_reducible apply grownS_drew | with_reducible apply grownS_alloc | (with_reducible refine grown_setNew ?_ (by first | omega | (simp; omega)) _) | with_reducible refine grown_trans ?_ (by with_reducible assumption))))) (first | (go_at_call 29; with_reducible (show Calls _ _ _ (World.alloc _ _) _); refine (HP.out _ _ (by repeat (first | with_reducible assumption | with_reducible apply SrcAt.drewN | with_reducible apply SrcAt.drew | with_reducible apply SrcAt.alloc | (with_reducible refine SrcAt.setNew ?_ (by omega) _))) (by omega) _ (by omega)).mono ?_; rintro e w1 ⟨x, rfl, x0, x1, hs1, hg1⟩; have hp1 := hs1.lt; have hwx := w8b x0 x1 (by omega); have hbk := Lib.hid (alloc_kept hg1 (by omega)); obtain ⟨y0, y1, y2, y3, y4, z0, z1, z2, z3, z4⟩ := five_cells hbk.out) | (go_at_call 29; with_reducible (show Calls _ _ _ (World.drew (World.alloc _ _)) _); refine (HP.out _ _ (by repeat (first | with_reducible assumption | with_reducible apply SrcAt.drewN | with_reducible apply SrcAt.drew | with_reducible apply SrcAt.alloc | (with_reducible refine SrcAt.setNew ?_ (by omega) _))) (by omega) _ (by omega)).mono ?_; rintro e w1 ⟨x, rfl, x0, x1, hs1, hg1⟩; have hp1 := hs1.lt; have hwx := w8b x0 x1 (by omega); have hbk := Lib.hid (alloc_keptD hg1 (by omega)); obtain ⟨y0, y1, y2, y3, y4, z0, z1, z2, z3, z4⟩ := five_cells hbk.out; have hz1 := hg1.size; (try simp [Nat.succ_le_iff] at hz1)) | (go_at_call 29; refine (HP.out _ _ (by repeat (first | with_reducible assumption | with_reducible apply SrcAt.drewN | with_reducible apply SrcAt.drew | with_reducible apply SrcAt.alloc | (with_reducible refine SrcAt.setNew ?_ (by omega) _))) (by omega) _ (by omega)).mono ?_; rintro e w1 ⟨x, rfl, x0, x1, hs1, hg1⟩; have hp1 := hs1.lt; have hwx := w8b x0 x1 (by omega); have hz1 := hg1.size; (try simp [Nat.succ_le_iff] at hz1); obtain ⟨hc1, hf1⟩ := gcell hg1))
    all_goals
      go_wp2_with fail
      go_meet
      with_reducible apply fin_piece
      · first | with_reducible exact heap_alloc_new _ _ | with_reducible exact five_set hbk.out _ _ _ _ _ | exact five_set ((hg1.block W.heap.size (by omega) (fun e => by simp at e; omega)).trans hbk.out) _ _ _ _ _
      · omega
      · omega
      · omega
      · exact (by repeat (first | with_reducible assumption | with_reducible apply SrcAt.drewN | with_reducible apply SrcAt.drew | with_reducible apply SrcAt.alloc | (with_reducible refine SrcAt.setNew ?_ (by omega) _)))
      · exact (by repeat (first | with_reducible exact grown_refl _ _ | with_reducible assumption | with_reducible apply grownS_drewN | with_reducible apply grownS_drew | with_reducible apply grownS_alloc | (with_reducible refine grown_setNew ?_ (by first | omega | (simp; omega)) _) | with_reducible refine grown_trans ?_ (by with_reducible assumption)))
  case rest =>
    obtain ⟨b, x, y, rfl, hb, hblk, hx, hy, hs4, hg4⟩ := hcut
    go_wp2_with fail
    refine (one_any p code (k + 4) wc 3 hs4 hc (by omega) (by omega)).mono ?_
    rintro e w2 ⟨v, rfl, hs6, hg6⟩
    have hg2 := grown_trans hg4 hg6
    have hb2 := (hg6.block b (lt_of_block hblk) (fun e => by simp at e; omega)).trans hblk
    have hq2 := (hg2.block (w.heap.size + 1) hWl (fun e => by simp at e; omega)).trans HWq.out
    have hbne : b ≠ w.heap.size + 1 := by omega
    clear hblk hg6 hs4 HP hx0 hx1
    have hwp : p < w.heap.size + 1 := by omega
    cases v with
    | true =>
      go_wp2_with fail
      refine (pick_any p code (k + 6) w2 4 hs6 hc (by omega) (by omega)).mono ?_
      rintro e w3 ⟨u, rfl, u0, u1, hs8, hg8⟩
      have u2 : u ≤ 3 := by omega
      have e1 : IntKind.i64.wrap (1 + u) = 1 + u := wrap_i64' _ (by omega) (by omega)
      have e2 : IntKind.i8.wrap (1 + u) = 1 + u := by simp [IntKind.wrap, IntKind.bits, IntKind.signed]; omega
      have hb3 := (hg8.block b (lt_of_block hb2) (fun e => by simp at e; omega)).trans hb2
      have hq3 := (hg8.block (w.heap.size + 1) (lt_of_block hq2) (fun e => by simp at e; omega)).trans hq2
      have hb4 : (w3.setCell ⟨b, 4, none⟩ (.int .i8 (1 + u))).heap[b]? = _ := set_block hb3 4 _
      have hq4 : (w3.setCell ⟨b, 4, none⟩ (.int .i8 (1 + u))).heap[w.heap.size + 1]? = _ := (heap_setCell_other w3 ⟨b, 4, none⟩ (w.heap.size + 1) (.int .i8 (1 + u)) (fun e => hbne (by simp at e; omega))).trans hq3
      have HB4 := Lib.hid hb4
      have HQ4 := Lib.hid hq4
      obtain ⟨a0, a1, a2, a3, a4, f0, f1, f2, f3, f4⟩ := five_cells hb3
      obtain ⟨c0, c1, c2, c3, c4, d0, d1, d2, d3, d4⟩ := five_cells hq3
      have hg9 : w.grownBy (w3.setCell ⟨b, 4, none⟩ (.int .i8 (1 + u))) (some p) := by
        have hgA := grown_trans hWg (grown_trans hg2 hg8)
        exact grown_setNew hgA (by omega) _
      have hs9 : SrcAt (w3.setCell ⟨b, 4, none⟩ (.int .i8 (1 + u))) p code (k + 8) := by
        have := hs8.lt
        exact SrcAt.setNew hs8 (by omega) _
      clear hb3 hq3 hb4 hq4 hb2 hq2 hg8 hs8 hg2 hs6 hg4 hWg
      go_wp2
      have hh := five_set HQ4.out (.int .i8 cx) (.int .i8 cy) (.int .i8 x) (.int .i8 y) (.int .i8 (1 + u))
      refine bodyPost_ret (v := .agg #[.int .i8 cx, .int .i8 cy, .int .i8 x, .int .i8 y, .int .i8 (1 + u)]) (results_cell_row Try.results31 _ _ (w.heap.size + 1) 64 _ (0, 0) _ rfl hh Try.underlying64 rfl (by kernel_rfl)) rfl ⟨⟨cx, cy, x, y, 1 + u⟩, rfl, rfl, rfl, hx.1, hx.2, hy.1, hy.2, by show 1 ≤ 1 + u; omega, by show 1 + u ≤ 4; omega, ?_, ?_⟩
      · exact (by repeat (first | with_reducible assumption | with_reducible apply SrcAt.drewN | with_reducible apply SrcAt.drew | with_reducible apply SrcAt.alloc | (with_reducible refine SrcAt.setNew ?_ (by omega) _)))
      · exact (by repeat (first | with_reducible exact grown_refl _ _ | with_reducible assumption | with_reducible apply grownS_drewN | with_reducible apply grownS_drew | with_reducible apply grownS_alloc | (with_reducible refine grown_setNew ?_ (by first | omega | (simp; omega)) _) | with_reducible refine grown_trans ?_ (by with_reducible assumption)))
    | false =>
      obtain ⟨a0, a1, a2, a3, a4, f0, f1, f2, f3, f4⟩ := five_cells hb2
      obtain ⟨c0, c1, c2, c3, c4, d0, d1, d2, d3, d4⟩ := five_cells hq2
      go_wp2
      have hh := five_set hq2 (.int .i8 cx) (.int .i8 cy) (.int .i8 x) (.int .i8 y) (.int .i8 1)
      refine bodyPost_ret (v := .agg #[.int .i8 cx, .int .i8 cy, .int .i8 x, .int .i8 y, .int .i8 1]) (results_cell_row Try.results31 _ _ (w.heap.size + 1) 64 _ (0, 0) _ rfl hh Try.underlying64 rfl (by kernel_rfl)) rfl ⟨⟨cx, cy, x, y, 1⟩, rfl, rfl, rfl, hx.1, hx.2, hy.1, hy.2, by show (1 : Int) ≤ 1; omega, by show (1 : Int) ≤ 4; omega, ?_, ?_⟩
      · have hs8 := hs6.le (show k + 6 ≤ k + 8 by omega)
        exact (by repeat (first | with_reducible assumption | with_reducible apply SrcAt.drewN | with_reducible apply SrcAt.drew | with_reducible apply SrcAt.alloc | (with_reducible refine SrcAt.setNew ?_ (by omega) _)))
      · have hgA := grown_trans hWg hg2
        exact (by repeat (first | with_reducible exact grown_refl _ _ | with_reducible assumption | with_reducible apply grownS_drewN | with_reducible apply grownS_drew | with_reducible apply grownS_alloc | (with_reducible refine grown_setNew ?_ (by first | omega | (simp; omega)) _) | with_reducible refine grown_trans ?_ (by with_reducible assumption)))
end Go.Proofs.Ytmeefmoblkiebaa
/- Boards that are drawn row by row: plain law. -/
namespace Go.Proofs.Ytmeefmoblkiebaa
open Go.RowKit
set_option linter.unusedVariables false
set_option linter.unusedSimpArgs false
set_option maxHeartbeats 400000
set_option maxRecDepth 100000
structure DrI (wd hg y x : Int) (ps : List Pc) : Prop where
  ok : ∀ k (h : k < ps.length), ps[k].ok
  v : ps.all (fun p => vPc p && cIn wd hg p.at_) = true
  nd : (ps.map Pc.at_).Nodup
  lt : ∀ c ∈ ps.map Pc.at_, c.y < y ∨ (c.y = y ∧ c.x < x)
  len : (ps.length : Int) ≤ 6 * y + x
theorem DrI.nil (wd hg : Int) : DrI wd hg 0 0 [] := ⟨fun k h => absurd h (by simp), rfl, by simp, by simp, by simp⟩
theorem DrI.skip {wd hg y x : Int} {ps : List Pc} (h : DrI wd hg y x ps) : DrI wd hg y (x + 1) ps :=
  ⟨h.ok, h.v, h.nd, fun c hc => by have := h.lt c hc; omega, by have := h.len; omega⟩
theorem DrI.row {wd hg y x : Int} {ps : List Pc} (h : DrI wd hg y x ps) (hx : x ≤ 6) : DrI wd hg (y + 1) 0 ps :=
  ⟨h.ok, h.v, h.nd, fun c hc => by have := h.lt c hc; omega, by have := h.len; omega⟩
theorem DrI.push {wd hg y x : Int} {ps : List Pc} (h : DrI wd hg y x ps) (p : Pc) (ho : p.ok) (hv : vPc p = true) (hx : p.x = x) (hy : p.y = y) (h0 : 0 ≤ x) (h1 : x < wd) (h2 : 0 ≤ y) (h3 : y < hg) : DrI wd hg y (x + 1) (ps ++ [p]) := by
  refine ⟨?_, ?_, ?_, ?_, ?_⟩
  · intro k hk
    rw [List.getElem_append]
    split
    · exact h.ok k _
    · simpa using ho
  · rw [List.all_append, h.v]
    simp only [List.all_cons, List.all_nil, Bool.and_true, Bool.true_and, hv]
    simp only [cIn, inB, Pc.at_, hx, hy, Bool.and_eq_true, decide_eq_true_eq]
    omega
  · rw [List.map_append, List.nodup_append]
    refine ⟨h.nd, by simp, ?_⟩
    intro a ha b hb
    simp only [List.map_cons, List.map_nil, List.mem_singleton] at hb
    have := h.lt a ha
    intro hab
    rw [hab, hb] at this
    have e1 : p.at_.x = x := hx
    have e2 : p.at_.y = y := hy
    omega
  · intro c hc
    rw [List.map_append, List.mem_append] at hc
    rcases hc with hc | hc
    · have := h.lt c hc; omega
    · simp only [List.map_cons, List.map_nil, List.mem_singleton] at hc
      have e1 : p.at_.x = x := hx
      have e2 : p.at_.y = y := hy
      rw [hc]
      omega
  · rw [List.length_append]
    have := h.len
    simp only [List.length_cons, List.length_nil]
    omega
theorem DrI.vBd {wd hg y x : Int} {ps : List Pc} (h : DrI wd hg y x ps) (hw : 1 ≤ wd ∧ wd ≤ 24) (hh : 1 ≤ hg ∧ hg ≤ 24) (hy : 6 * y + x ≤ 200) : vBd ⟨wd, hg, ps⟩ = true := by
  have := h.len
  simp only [Go.Proofs.Ytmeefmoblkiebaa.vBd, inB, Bool.and_eq_true, decide_eq_true_eq]
  refine ⟨⟨⟨⟨by omega, by omega⟩, by omega⟩, h.v⟩, h.nd⟩
end Go.Proofs.Ytmeefmoblkiebaa
/- Contracts: a board that is drawn. -/
namespace Go.Proofs.Ytmeefmoblkiebaa
open Go.RowKit
set_option linter.unusedVariables false
set_option linter.unusedSimpArgs false
set_option maxHeartbeats 400000
set_option maxRecDepth 100000
theorem sl_newD (w : World) (cs : Array Value) (T : TypeId) (g : Nat) (hg : g = w.heap.size) : SlAt (g + 1) (w.alloc (.cells cs T)) (some ⟨g, 0, none⟩) cs.toList := by
  subst hg
  exact sl_new w cs T
theorem three_blk {w : World} {b : Nat} {x y z u : Value} {T : TypeId} (h : w.heap[b]? = some (.cells #[x, y, z] T (0, 0))) : (w.setCell ⟨b, 2, none⟩ u).heap[b]? = some (.cells #[x, y, u] T (0, 0)) := three_set2 h
theorem blk_kept {w w' : World} {b : Nat} {o : Obj} {row : Option Nat} (h : w.heap[b]? = some o) (hg : w.grownBy w' row) (hne : row ≠ some b) : w'.heap[b]? = some o := by
  rw [hg.block b (lt_of_block h) (fun e => hne e.symm)]
  exact h
theorem drawn_pc (P : Pc) {c : Ce} (h0 : (0 ≤ c.x ∧ c.x ≤ 23) ∧ 0 ≤ c.y ∧ c.y ≤ 23) (hx : P.x = c.x) (hy : P.y = c.y) (k0 : 0 ≤ P.k) (k1 : P.k ≤ 5) (t0 : 0 ≤ P.t) (t1 : P.t ≤ 3) (d0 : 1 ≤ P.d) (d1 : P.d ≤ 4) : P.ok ∧ vPc P = true := by
  obtain ⟨x, y, k, t, d⟩ := P
  simp only at *
  subst hx
  subst hy
  refine ⟨⟨⟨⟨by show -128 ≤ c.x; omega, by show c.x ≤ 127; omega⟩, ⟨by show -128 ≤ c.y; omega, by show c.y ≤ 127; omega⟩⟩, ⟨by show -128 ≤ k; omega, by show k ≤ 127; omega⟩, ⟨by show -128 ≤ t; omega, by show t ≤ 127; omega⟩, ⟨by show -128 ≤ d; omega, by show d ≤ 127; omega⟩⟩, ?_⟩
  simp [vPc, inB]
  omega
theorem infoPcD : (Try.prog.info? 64).map (fun i => (i.zero, i.size, i.bytes)) = some (some (.agg #[.int .i8 0, .int .i8 0, .int .i8 0, .int .i8 0, .int .i8 0]), 5, 5) := by kernel_rfl
/-- The board while it is drawn. -/
structure DrS (w wr : World) (p b wd hg : Nat) (code : List Int) (k : Nat) (v : Value) (ps : List Pc) : Prop where
  blk : wr.heap[b]? = some (.cells #[.int .i8 wd, .int .i8 hg, v] 27 (0, 0))
  own : wr.ownsRow (b + 1) 64 5 v ps.length (flat Pc.cells ps)
  src : SrcAt wr p code k
  grown : w.grownBy wr (some p)
theorem DrS.le {w wr : World} {p b wd hg : Nat} {code : List Int} {k k' : Nat} {v : Value} {ps : List Pc} (h : DrS w wr p b wd hg code k v ps) (hk : k ≤ k') : DrS w wr p b wd hg code k' v ps := ⟨h.blk, h.own, h.src.le hk, h.grown⟩
/-- A callee that draws. -/
theorem DrS.draw {w wr w' : World} {p b wd hg : Nat} {code : List Int} {k k' : Nat} {v : Value} {ps : List Pc} (h : DrS w wr p b wd hg code k v ps) (hs : SrcAt w' p code k') (hg' : wr.grownBy w' (some p)) (hp : p < b) : DrS w w' p b wd hg code k' v ps :=
  ⟨blk_kept h.blk hg' (fun e => by simp at e; omega), own_kept h.own hg' (fun q hq => by have := (h.own.lt q hq).1; intro e; simp at e; omega), hs, grown_trans h.grown hg'⟩
theorem DrS.alloc {w wr : World} {p b wd hg : Nat} {code : List Int} {k : Nat} {v : Value} {ps : List Pc} (h : DrS w wr p b wd hg code k v ps) (o : Obj) : DrS w (wr.alloc o) p b wd hg code k v ps :=
  ⟨blk_kept (row := none) h.blk (World.grownBy_alloc wr o none) (by simp), own_kept (row := none) h.own (World.grownBy_alloc wr o none) (fun q hq => by simp), h.src.alloc, grownS_alloc h.grown o⟩
theorem DrS.set {w wr : World} {p b wd hg q o : Nat} {code : List Int} {k : Nat} {v : Value} {ps : List Pc} (h : DrS w wr p b wd hg code k v ps) (hp : p < b) (hw : w.heap.size ≤ q) (hb : b < q) (hv : ∀ g, v.ownBlock = some g → g ≠ q) (u : Value) : DrS w (wr.setCell ⟨q, o, none⟩ u) p b wd hg code k v ps :=
  ⟨blk_kept h.blk (grown_set1 wr q o u) (fun e => by simp at e; omega), own_kept h.own (grown_set1 wr q o u) (fun g hg e => hv g hg (by simpa using e)), h.src.setNew (by omega) u, grown_setNew h.grown hw u⟩
theorem DrS.own_lt {w wr : World} {p b wd hg : Nat} {code : List Int} {k : Nat} {v : Value} {ps : List Pc} (h : DrS w wr p b wd hg code k v ps) : ∀ g, v.ownBlock = some g → g ≠ wr.heap.size := fun g hg e => by have := (h.own.lt g hg).2; omega
/-- The piece is put behind the row. -/
theorem DrS.push {w wr w6 : World} {p b wd hg : Nat} {code : List Int} {k : Nat} {v v' : Value} {ps : List Pc} {P : Pc} {o : Obj} (h : DrS w wr p b wd hg code k v ps) (hp : p < b) (hb : w.heap.size ≤ b) (hgrow : (wr.alloc o).grownBy w6 v.ownBlock) (hown : w6.ownsRow (b + 1) 64 5 v' (ps.length + 1) (flat Pc.cells ps ++ P.cells)) :
    DrS w (w6.setCell ⟨b, 2, none⟩ v') p b wd hg code k v' (ps ++ [P]) := by
  have hv : ∀ q, v.ownBlock = some q → b + 1 ≤ q := fun q hq => (h.own.lt q hq).1
  have h1 := h.alloc o
  have hb6 : w6.heap[b]? = _ := blk_kept h1.blk hgrow (fun e => by have := hv b e; omega)
  have hs6 : SrcAt w6 p code k := h1.src.grown hgrow (fun g e => by have := hv g e; omega)
  have hg6 : w.grownBy w6 (some p) := by
    cases hvb : v.ownBlock with
    | none => rw [hvb] at hgrow; exact grown_trans h1.grown ⟨hgrow.os, hgrow.tape, hgrow.output, hgrow.size, fun i hi _ => hgrow.block i hi (by simp)⟩
    | some q => rw [hvb] at hgrow; exact grown_new h1.grown hgrow (by have := hv q hvb; omega)
  have e : flat Pc.cells ps ++ P.cells = flat Pc.cells (ps ++ [P]) := by rw [flat_append]; simp [flat]
  rw [e] at hown
  refine ⟨three_set2 hb6, ?_, hs6.setNew hp v', grown_setNew hg6 hb v'⟩
  rw [List.length_append]
  exact own_kept hown (grown_set1 w6 b 2 v') (fun q hq e => by have := (hown.lt q hq).1; simp at e; omega)
theorem DrS.push_blk {w wr w6 : World} {p b wd hg : Nat} {code : List Int} {k : Nat} {v : Value} {ps : List Pc} {o : Obj} (h : DrS w wr p b wd hg code k v ps) (hgrow : (wr.alloc o).grownBy w6 v.ownBlock) :
    w6.heap[b]? = some (.cells #[.int .i8 wd, .int .i8 hg, v] 27 (0, 0)) :=
  blk_kept (h.alloc o).blk hgrow (fun e => by have := (h.own.lt b e).1; omega)
set_option maxHeartbeats 1600000 in
theorem l01Drawn_any (p : Nat) (code : List Int) (k : Nat) (w : World) (hs : SrcAt w p code k) (hc : BytesOk code) (hk : k ≤ 700000) :
    Calls Try.prog 13 #[.pointer (some ⟨p, 0, none⟩)] w fun e w' => ∃ (wd hg : Int) (v : Value), e = .returned (bdv wd hg v) ∧ ∃ (ps : List Pc), vBd ⟨wd, hg, ps⟩ = true ∧ (Bd.mk wd hg ps).ok ∧ ps.length ≤ 24 ∧ w'.ownsRow w.heap.size 64 5 v ps.length (flat Pc.cells ps) ∧ SrcAt w' p code (k + 1000) ∧ w.grownBy w' (some p) := by
  have hlt := hs.lt
  obtain ⟨i0, hi, hz0, hz1, hz2⟩ := info_parts infoPcD
  obtain ⟨W, hW⟩ : ∃ W, W = w.alloc (.cells #[.int .i8 0, .int .i8 0, .slice none 0 0] 27) := ⟨_, rfl⟩
  have hWs : w.heap.size < W.heap.size := by rw [hW]; simp
  have hWg : w.grownBy W (some p) := by rw [hW]; exact grownS_alloc (grown_refl _ _) _
  have hsW : SrcAt W p code k := by rw [hW]; exact hs.alloc
  have hWq : W.heap[w.heap.size]? = some (.cells #[.int .i8 0, .int .i8 0, .slice none 0 0] 27 (0, 0)) := by rw [hW]; exact heap_alloc_new _ _
  have HP := Lib.hid (fun w' j (h : SrcAt w' p code j) (hj : j ≤ 900000) (n : Int) (hn : n ≤ 1000000) => pick_any p code j w' n h hc hj hn)
  have HO := Lib.hid (fun w' j (h : SrcAt w' p code j) (hj : j ≤ 900000) (n : Int) (hn : n ≤ 1000000) => one_any p code j w' n h hc hj hn)
  have HD := Lib.hid (fun w' j (h : SrcAt w' p code j) (hj : j ≤ 800000) c (hco : Ce.ok c) => l01PieceDrawn_any p code j w' c h hc hj hco)
  have HWq := Lib.hid hWq
  have HWg := Lib.hid hWg
  go_enter Try.func13, Try.ntmps13
  go_wp2_with fail
  rw [← hW]
  clear hW hWq hWg
  refine (HP.out _ _ hsW (by omega) _ (by omega)).mono ?_
  rintro e w1 ⟨x, rfl, x0, x1, hs1, hg1⟩
  obtain ⟨wd, hwd, hwd1⟩ : ∃ wd : Nat, IntKind.i64.wrap (2 + x) = (wd : Int) ∧ 2 ≤ wd ∧ wd ≤ 6 := by
    have : IntKind.i64.wrap (2 + x) = 2 + x := wrap_i64' _ (by omega) (by omega)
    exact ⟨(2 + x).toNat, by omega, by omega, by omega⟩
  have hwd8 : IntKind.i8.wrap (wd : Int) = wd := by simp [IntKind.wrap, IntKind.bits, IntKind.signed]; omega
  go_wp2_with fail
  refine (HP.out _ _ hs1 (by omega) _ (by omega)).mono ?_
  rintro e w2 ⟨y, rfl, y0, y1, hs2, hg2⟩
  obtain ⟨hg, hhg, hhg1⟩ : ∃ hg : Nat, IntKind.i64.wrap (1 + y) = (hg : Int) ∧ 1 ≤ hg ∧ hg ≤ 4 := by
    have : IntKind.i64.wrap (1 + y) = 1 + y := wrap_i64' _ (by omega) (by omega)
    exact ⟨(1 + y).toNat, by omega, by omega, by omega⟩
  have hhg8 : IntKind.i8.wrap (hg : Int) = hg := by simp [IntKind.wrap, IntKind.bits, IntKind.signed]; omega
  have hg02 := grown_trans hg1 hg2
  have hz2 := hg02.size
  obtain ⟨b, hb⟩ : ∃ b, b = w2.heap.size := ⟨_, rfl⟩
  have DS : Hid (DrS W (w2.alloc (.cells #[.int .i8 wd, .int .i8 hg, .slice none 0 0] 27)) p b wd hg code (k + 4) (.slice none 0 0) []) := by
    subst hb
    refine Lib.hid ⟨heap_alloc_new _ _, World.ownsRow_nil _ _ _ _, hs2.alloc, grownS_alloc hg02 _⟩
  have hp : p < b := by have := hs2.lt; omega
  go_wp2_with fail
  rw [← hb]
  clear hwd hhg hwd8 hhg8 hs1 hs2 hg1 hg2 hg02 x0 x1 y0 y1
  have hWb : W.heap.size ≤ b := by omega
  go_loopw [4] (fun i wr => ∃ (n : Nat) (v : Value) (ps : List Pc), n ≤ hg ∧ i = .int .i8 (n : Int) ∧ DrI wd hg n 0 ps ∧ DrS W wr p b wd hg code (k + 4 + n * 90) v ps) (fun i _ => hg - (intOf i).toNat)
  case atStart => exact ⟨0, _, [], by omega, rfl, DrI.nil _ _, DS.out⟩
  case round =>
    clear DS hb hz2
    obtain ⟨n, v, ps, hn, rfl, hI, hS⟩ := hrel
    obtain ⟨W1, hW1⟩ : ∃ W1, W1 = wr := ⟨_, rfl⟩
    subst hW1
    obtain ⟨c0, c1, c2, cf⟩ := three_cells hS.blk
    by_cases hlt1 : (n : Int) < hg
    · have HI := Lib.hid hI
      have HS := Lib.hid hS
      clear hI hS
      go_wp2_with fail
      go_loopw [5] (fun i wr => ∃ (m : Nat) (v : Value) (ps : List Pc), m ≤ wd ∧ i = .int .i8 (m : Int) ∧ DrI wd hg n m ps ∧ DrS W wr p b wd hg code (k + 4 + n * 90 + m * 14) v ps) (fun i _ => wd - (intOf i).toNat)
      case atStart => exact ⟨0, _, _, by omega, rfl, HI.out, HS.out⟩
      case round =>
        clear c0 c1 c2 cf HI HS
        obtain ⟨m, v, ps, hm, rfl, hI, hS⟩ := hrel
        obtain ⟨c0, c1, c2, cf⟩ := three_cells hS.blk
        have HI := Lib.hid hI
        have HS := Lib.hid hS
        have hs := hS.src
        clear hI hS
        by_cases hlt2 : (m : Int) < wd
        · go_wp2_with fail
          refine (HO.out _ _ hs (by omega) _ (by omega)).mono ?_
          rintro e w3 ⟨v1, rfl, hs3, hg3⟩
          have HS3 := Lib.hid (HS.out.draw hs3 hg3 hp)
          clear hg3 c0 c1 c2 cf hs
          cases v1 with
          | true =>
            go_wp2_with fail
            go_roundw
            case rel => exact ⟨m + 1, v, ps, by omega, by go_num, by rw [show ((m + 1 : Nat) : Int) = (m : Int) + 1 by omega]; exact HI.out.skip, HS3.out.le (by omega)⟩
            case measure => simp [intOf]; omega
          | false =>
            go_wp2_with fail
            refine (HD.out _ _ hs3 (by omega) ⟨m, n⟩ ⟨⟨by show (-128 : Int) ≤ m; omega, by show (m : Int) ≤ 127; omega⟩, ⟨by show (-128 : Int) ≤ n; omega, by show (n : Int) ≤ 127; omega⟩⟩).mono ?_
            rintro e w4 ⟨⟨px, py, pk, pt, pd⟩, rfl, hPx, hPy, k0, k1, t0, t1, d0, d1, hs4, hg4⟩
            simp only at hPx hPy k0 k1 t0 t1 d0 d1
            subst hPx
            subst hPy
            have HS4 := Lib.hid (HS3.out.draw hs4 hg4 hp)
            have hqb : b < w4.heap.size := lt_of_block HS4.out.blk
            have hqv := HS4.out.own_lt
            obtain ⟨q, hq⟩ : ∃ q, q = w4.heap.size := ⟨_, rfl⟩
            obtain ⟨w5, hw5⟩ : ∃ w5, w5 = w4.alloc (.cells #[.int .i8 m, .int .i8 n, .int .i8 pk, .int .i8 pt, .int .i8 pd] 64) := ⟨_, rfl⟩
            have HS5 := Lib.hid (HS4.out.alloc (.cells #[.int .i8 m, .int .i8 n, .int .i8 pk, .int .i8 pt, .int .i8 pd] 64))
            have hq5 : w5.heap[q]? = some (.cells #[.int .i8 m, .int .i8 n, .int .i8 pk, .int .i8 pt, .int .i8 pd] 64 (0, 0)) := by rw [hw5, hq]; exact heap_alloc_new _ _
            rw [← hw5] at HS5
            rw [← hq] at hqv hqb
            have HQV := Lib.hid hqv
            have HQ5 := Lib.hid hq5
            clear hqv hs4 hg4 hs3 HS3 HS4 hq5
            go_wp2_with fail
            rw [← hw5, ← hq]
            clear hw5 hq
            have hs5 := HS5.out.src
            refine (HO.out _ _ hs5 (by omega) _ (by omega)).mono ?_
            rintro e w6 ⟨v2, rfl, hs6, hg6⟩
            have HS6 := Lib.hid (HS5.out.draw hs6 hg6 hp)
            have hq6 := blk_kept HQ5.out hg6 (by simp; omega)
            clear hg6 hs5 HS5 HQ5
            have hWq : W.heap.size ≤ q := by omega
            cases v2 with
            | true =>
              obtain ⟨a0, a1, a2, a3, a4, f0, f1, f2, f3, f4⟩ := five_cells hq6
              have HS7 := Lib.hid (HS6.out.set (o := 2) hp hWq hqb HQV.out (.int .i8 0))
              have hq7 : (w6.setCell ⟨q, 2, none⟩ (.int .i8 0)).heap[q]? = some (.cells #[.int .i8 m, .int .i8 n, .int .i8 0, .int .i8 pt, .int .i8 pd] 64 (0, 0)) := set_block hq6 2 (.int .i8 0)
              have HQ7 := Lib.hid hq7
              clear hq7 hq6
              go_wp2_with fail
              have hs7 := HS7.out.src
              refine (HP.out _ _ hs7 (by omega) _ (by omega)).mono ?_
              rintro e w8 ⟨t, rfl, tt0, tt1, hs8, hg8⟩
              have et : IntKind.i8.wrap t = t := by simp [IntKind.wrap, IntKind.bits, IntKind.signed]; omega
              have HS8 := Lib.hid (HS7.out.draw hs8 hg8 hp)
              have hq8 := blk_kept HQ7.out hg8 (by simp; omega)
              clear a0 a1 a2 a3 a4 f0 f1 f2 f3 f4 hs6 hs7 hg8 HS7 HQ7
              obtain ⟨a0, a1, a2, a3, a4, f0, f1, f2, f3, f4⟩ := five_cells hq8
              obtain ⟨c0, c1, c2, cf⟩ := three_cells HS8.out.blk
              have HS9 := Lib.hid (HS8.out.set (o := 3) hp hWq hqb HQV.out (.int .i8 t))
              have HOK := Lib.hid (drawn_pc ⟨m, n, 0, t, pd⟩ (c := ⟨m, n⟩) (by show (0 ≤ (m : Int) ∧ (m : Int) ≤ 23) ∧ 0 ≤ (n : Int) ∧ (n : Int) ≤ 23; omega) rfl rfl (by show (0 : Int) ≤ 0; omega) (by show (0 : Int) ≤ 5; omega) (by show 0 ≤ t; omega) (by show t ≤ 3; omega) d0 d1)
              have hzq := lt_of_block hq8
              clear hq8 hs8 HS8
              have hn24 : ps.length ≤ 24 := by have := HI.out.len; omega
              have HOWN := Lib.hid HS9.out.own
              go_wp2_with (at_builtin; go_must (refine wpList_append_sl _ rfl _ _ 25 rfl (b + 1) 64 i0 (.agg #[.int .i8 0, .int .i8 0, .int .i8 0, .int .i8 0, .int .i8 0]) 5 5 Try.underlying25 hi hz0 hz1 hz2 rfl (by decide) _ _ _ rfl (own_below HOWN.out (bl_alloc (Below.refl _ _)) (Nat.le_refl _)) (some ⟨_, 0, none⟩) 1 1 [.int .i8 m, .int .i8 n, .int .i8 0, .int .i8 t, .int .i8 pd] rfl (sl_newD _ #[.int .i8 m, .int .i8 n, .int .i8 0, .int .i8 t, .int .i8 pd] _ _ (by simp)) rfl (Pc.one (⟨m, n, 0, t, pd⟩ : Pc)) (by unfold maxLen; omega) (by omega) (by simp; omega) ?_); intro v3 wz hown3 hgrow; have hbk := HS9.out.push_blk hgrow; obtain ⟨e0, e1, e2, ef⟩ := three_cells hbk; obtain ⟨a3, cap3, rfl, -⟩ := own_at hown3)
              go_roundw
              case rel => exact ⟨m + 1, _, ps ++ [(⟨m, n, 0, t, pd⟩ : Pc)], by omega, by go_num, by rw [show ((m + 1 : Nat) : Int) = (m : Int) + 1 by omega]; exact HI.out.push (⟨m, n, 0, t, pd⟩ : Pc) HOK.out.1 HOK.out.2 rfl rfl (by omega) hlt2 (by omega) hlt1, (HS9.out.push (P := (⟨m, n, 0, t, pd⟩ : Pc)) hp hWb hgrow hown3).le (by omega)⟩
              case measure => simp [intOf]; omega
            | false =>
              obtain ⟨a0, a1, a2, a3, a4, f0, f1, f2, f3, f4⟩ := five_cells hq6
              obtain ⟨c0, c1, c2, cf⟩ := three_cells HS6.out.blk
              have HS9 := HS6
              have HOK := Lib.hid (drawn_pc ⟨m, n, pk, pt, pd⟩ (c := ⟨m, n⟩) (by show (0 ≤ (m : Int) ∧ (m : Int) ≤ 23) ∧ 0 ≤ (n : Int) ∧ (n : Int) ≤ 23; omega) rfl rfl k0 k1 t0 t1 d0 d1)
              have hzq := lt_of_block hq6
              clear hq6 hs6 HS6
              have hn24 : ps.length ≤ 24 := by have := HI.out.len; omega
              have HOWN := Lib.hid HS9.out.own
              go_wp2_with (at_builtin; go_must (refine wpList_append_sl _ rfl _ _ 25 rfl (b + 1) 64 i0 (.agg #[.int .i8 0, .int .i8 0, .int .i8 0, .int .i8 0, .int .i8 0]) 5 5 Try.underlying25 hi hz0 hz1 hz2 rfl (by decide) _ _ _ rfl (own_below HOWN.out (bl_alloc (Below.refl _ _)) (Nat.le_refl _)) (some ⟨_, 0, none⟩) 1 1 [.int .i8 m, .int .i8 n, .int .i8 pk, .int .i8 pt, .int .i8 pd] rfl (sl_newD _ #[.int .i8 m, .int .i8 n, .int .i8 pk, .int .i8 pt, .int .i8 pd] _ _ (by simp)) rfl (Pc.one (⟨m, n, pk, pt, pd⟩ : Pc)) (by unfold maxLen; omega) (by omega) (by simp; omega) ?_); intro v3 wz hown3 hgrow; have hbk := HS9.out.push_blk hgrow; obtain ⟨e0, e1, e2, ef⟩ := three_cells hbk; obtain ⟨a3, cap3, rfl, -⟩ := own_at hown3)
              go_roundw
              case rel => exact ⟨m + 1, _, ps ++ [(⟨m, n, pk, pt, pd⟩ : Pc)], by omega, by go_num, by rw [show ((m + 1 : Nat) : Int) = (m : Int) + 1 by omega]; exact HI.out.push (⟨m, n, pk, pt, pd⟩ : Pc) HOK.out.1 HOK.out.2 rfl rfl (by omega) hlt2 (by omega) hlt1, (HS9.out.push (P := (⟨m, n, pk, pt, pd⟩ : Pc)) hp hWb hgrow hown3).le (by omega)⟩
              case measure => simp [intOf]; omega
        · have hme : m = wd := by omega
          go_wp2_with fail
          go_roundw
          case rel => exact ⟨n + 1, v, ps, by omega, by go_num, by rw [show ((n + 1 : Nat) : Int) = (n : Int) + 1 by omega]; exact HI.out.row (by omega), HS.out.le (by omega)⟩
          case measure => simp [intOf]; omega
    · have hne : n = hg := by omega
      obtain ⟨av, capv, hve, -⟩ := own_at hS.own
      subst hve
      have hq := blk_kept HWq.out hS.grown (by simp; omega)
      obtain ⟨d0, d1, d2, df⟩ := three_cells hq
      go_wp2_with fail
      have hh := set_block (set_block (set_block hq 0 (.int .i8 wd)) 1 (.int .i8 hg)) 2 (.slice av ps.length capv)
      refine bodyPost_ret (v := bdv wd hg (.slice av ps.length capv)) (results_cell_row Try.results13 _ _ w.heap.size 27 _ (0, 0) _ rfl hh Try.underlying27 rfl (by kernel_rfl)) rfl ⟨(wd : Int), (hg : Int), .slice av ps.length capv, rfl, ps, hI.vBd (by omega) (by omega) (by omega), ⟨⟨by show (-128 : Int) ≤ wd; omega, by show (wd : Int) ≤ 127; omega⟩, ⟨by show (-128 : Int) ≤ hg; omega, by show (hg : Int) ≤ 127; omega⟩, hI.ok⟩, by have := hI.len; omega, ?_, ?_, ?_⟩
      · have hown := own_mono (base := w.heap.size) hS.own (by omega)
        have hk : ∀ q, (Value.slice av ps.length capv).ownBlock = some q → some q ≠ some w.heap.size := fun q hq e => by have := (hS.own.lt q hq).1; simp at e; omega
        exact own_kept (own_kept (own_kept hown (grown_set1 _ _ 0 _) hk) (grown_set1 _ _ 1 _) hk) (grown_set1 _ _ 2 _) hk
      · have hs9 := hS.src.le (show k + 4 + n * 90 ≤ k + 1000 by omega)
        exact (by repeat (first | with_reducible assumption | with_reducible apply SrcAt.drewN | with_reducible apply SrcAt.drew | with_reducible apply SrcAt.alloc | (with_reducible refine SrcAt.setNew ?_ (by omega) _)))
      · have hgA := grown_trans HWg.out hS.grown
        exact (by repeat (first | with_reducible exact grown_refl _ _ | with_reducible assumption | with_reducible apply grownS_drewN | with_reducible apply grownS_drew | with_reducible apply grownS_alloc | (with_reducible refine grown_setNew ?_ (by first | omega | (simp; omega)) _) | with_reducible refine grown_trans ?_ (by with_reducible assumption)))
end Go.Proofs.Ytmeefmoblkiebaa
/- Contracts: pushes that are drawn; the board and the pushes of the laws. -/
namespace Go.Proofs.Ytmeefmoblkiebaa
open Go.RowKit
set_option linter.unusedVariables false
set_option linter.unusedSimpArgs false
set_option maxHeartbeats 400000
set_option maxRecDepth 100000
theorem infoPuD : (Try.prog.info? 71).map (fun i => (i.zero, i.size, i.bytes)) = some (some (.agg #[.int .i8 0, .int .i8 0, .int .i8 0, .int .i16 0]), 4, 6) := by kernel_rfl
theorem fnd_pc (ps : List Pc) (j : Nat) (hj : j < ps.length) : 0 ≤ fnd ⟨ps[j].x, ps[j].y⟩ ps := by
  unfold fnd
  cases hf : ps.findIdx? (fun q => decide (q.at_ = (⟨ps[j].x, ps[j].y⟩ : Ce))) with
  | none =>
    rw [List.findIdx?_eq_none_iff] at hf
    have := hf ps[j] (List.getElem_mem hj)
    simp [Pc.at_] at this
  | some k => exact Int.natCast_nonneg k
/-- A board whose memory lies below the source. -/
def BdP (w : World) (p b0 : Nat) (l : Bd) : Prop := b0 < p ∧ p < w.heap.size ∧ ∃ a cap, BdAt w b0 l.wd l.hg (.slice a l.ps.length cap) ∧ SlAt p w a (flat Pc.cells l.ps)
theorem BdP.step {w w' : World} {p b0 : Nat} {l : Bd} (h : BdP w p b0 l) (hg : w.grownBy w' (some p)) : BdP w' p b0 l := by
  obtain ⟨h1, h2, a, cap, h3, h4⟩ := h
  refine ⟨h1, Nat.lt_of_lt_of_le h2 hg.size, a, cap, ?_, h4.grownP (p := p) hg (by omega) (fun g e => by cases e; exact Nat.le_refl _)⟩
  have e : ∀ o, w'.cell? ⟨b0, o, none⟩ = w.cell? ⟨b0, o, none⟩ := fun o => World.cell?_of_block (a := ⟨b0, o, none⟩) (hg.block b0 (by omega) (fun e => by simp at e; omega))
  unfold BdAt at *
  rw [e, e, e]
  exact h3
/-- A push at a piece of the board. -/
def PuD (l : Bd) (q : Pu) : Prop := q.ok ∧ plainPu q = true ∧ 0 ≤ fnd ⟨q.x, q.y⟩ l.ps
theorem PuD.mk' {l : Bd} (hl : l.ok) {j : Nat} (hj : j < l.ps.length) {s t : Int} (s0 : 0 ≤ s) (s1 : s ≤ 3) (t0 : 0 ≤ t) (t1 : t ≤ 5) : PuD l ⟨l.ps[j].x, l.ps[j].y, s, t⟩ := by
  refine ⟨⟨(hl.2.2 j hj).1.1, (hl.2.2 j hj).1.2, ⟨by show -128 ≤ s; omega, by show s ≤ 127; omega⟩, ⟨by show -32768 ≤ t; omega, by show t ≤ 32767; omega⟩⟩, ?_, fnd_pc _ _ hj⟩
  simp [plainPu, inB]
  omega
theorem PuD.vPus {l : Bd} {qs : List Pu} (h : ∀ q ∈ qs, PuD l q) (hn : qs.length ≤ 20) : Go.Proofs.Ytmeefmoblkiebaa.vPus l qs = true ∧ PusOk qs := by
  refine ⟨?_, fun k hk => (h _ (List.getElem_mem hk)).1⟩
  unfold Go.Proofs.Ytmeefmoblkiebaa.vPus
  simp only [Bool.and_eq_true, decide_eq_true_eq, List.all_eq_true]
  exact ⟨⟨hn, fun q hq => (h q hq).2.1⟩, fun q hq => (h q hq).2.2⟩
theorem four_cells {w : World} {b : Nat} {v0 v1 v2 v3 : Value} {T : TypeId} (h : w.heap[b]? = some (.cells #[v0, v1, v2, v3] T (0, 0))) :
    w.cell? ⟨b, 0, none⟩ = some v0 ∧ w.cell? ⟨b, 1, none⟩ = some v1 ∧ w.cell? ⟨b, 2, none⟩ = some v2 ∧ w.cell? ⟨b, 3, none⟩ = some v3 ∧
    w.frozen? ⟨b, 0, none⟩ = false ∧ w.frozen? ⟨b, 1, none⟩ = false ∧ w.frozen? ⟨b, 2, none⟩ = false ∧ w.frozen? ⟨b, 3, none⟩ = false := by
  refine ⟨by simp [World.cell?, h], by simp [World.cell?, h], by simp [World.cell?, h], by simp [World.cell?, h], by simp [World.frozen?, h], by simp [World.frozen?, h], by simp [World.frozen?, h], by simp [World.frozen?, h]⟩
theorem four_set {w : World} {b : Nat} {v0 v1 v2 v3 : Value} {T : TypeId} (h : w.heap[b]? = some (.cells #[v0, v1, v2, v3] T (0, 0))) (u0 u1 u2 u3 : Value) :
    ((((w.setCell ⟨b, 0, none⟩ u0).setCell ⟨b, 1, none⟩ u1).setCell ⟨b, 2, none⟩ u2).setCell ⟨b, 3, none⟩ u3).heap[b]? = some (.cells #[u0, u1, u2, u3] T (0, 0)) :=
  set_block (set_block (set_block (set_block h 0 u0) 1 u1) 2 u2) 3 u3
/-- The pushes while they are drawn. -/
structure PuS (w wr : World) (p b0 : Nat) (l : Bd) (code : List Int) (k : Nat) (v : Value) (qs : List Pu) : Prop where
  bd : BdP wr p b0 l
  own : wr.ownsRow w.heap.size 71 4 v qs.length (flat Pu.cells qs)
  src : SrcAt wr p code k
  grown : w.grownBy wr (some p)
  pu : ∀ q ∈ qs, PuD l q
theorem PuS.le {w wr : World} {p b0 : Nat} {l : Bd} {code : List Int} {k k' : Nat} {v : Value} {qs : List Pu} (h : PuS w wr p b0 l code k v qs) (hk : k ≤ k') : PuS w wr p b0 l code k' v qs := ⟨h.bd, h.own, h.src.le hk, h.grown, h.pu⟩
theorem PuS.draw {w wr w' : World} {p b0 : Nat} {l : Bd} {code : List Int} {k k' : Nat} {v : Value} {qs : List Pu} (h : PuS w wr p b0 l code k v qs) (hp : p < w.heap.size) (hs : SrcAt w' p code k') (hg' : wr.grownBy w' (some p)) : PuS w w' p b0 l code k' v qs :=
  ⟨h.bd.step hg', own_kept h.own hg' (fun q hq e => by have := (h.own.lt q hq).1; simp at e; omega), hs, grown_trans h.grown hg', h.pu⟩
theorem PuS.alloc {w wr : World} {p b0 : Nat} {l : Bd} {code : List Int} {k : Nat} {v : Value} {qs : List Pu} (h : PuS w wr p b0 l code k v qs) (hp : p < w.heap.size) (o : Obj) : PuS w (wr.alloc o) p b0 l code k v qs :=
  h.draw hp h.src.alloc (World.grownBy_alloc wr o (some p))
theorem BdP.set {w : World} {p b0 q o : Nat} {l : Bd} (h : BdP w p b0 l) (hq : p < q) (u : Value) : BdP (w.setCell ⟨q, o, none⟩ u) p b0 l := by
  obtain ⟨h1, h2, a, cap, h3, h4⟩ := h
  have hg := grown_set1 w q o u
  refine ⟨h1, by simpa using h2, a, cap, ?_, h4.grownP (p := p) hg (by omega) (fun g e => by cases e; omega)⟩
  have e : ∀ i, (w.setCell ⟨q, o, none⟩ u).cell? ⟨b0, i, none⟩ = w.cell? ⟨b0, i, none⟩ := fun i => World.cell?_of_block (a := ⟨b0, i, none⟩) (hg.block b0 (by omega) (fun e => by simp at e; omega))
  unfold BdAt at *
  rw [e, e, e]
  exact h3
theorem PuS.set {w wr : World} {p b0 q o : Nat} {l : Bd} {code : List Int} {k : Nat} {v : Value} {qs : List Pu} (h : PuS w wr p b0 l code k v qs) (hp : p < w.heap.size) (hw : w.heap.size ≤ q) (hv : ∀ g, v.ownBlock = some g → g ≠ q) (u : Value) : PuS w (wr.setCell ⟨q, o, none⟩ u) p b0 l code k v qs :=
  ⟨h.bd.set (by omega) u, own_kept h.own (grown_set1 wr q o u) (fun g hg e => hv g hg (by simpa using e)), h.src.setNew (by omega) u, grown_setNew h.grown hw u, h.pu⟩
theorem PuS.own_lt {w wr : World} {p b0 : Nat} {l : Bd} {code : List Int} {k : Nat} {v : Value} {qs : List Pu} (h : PuS w wr p b0 l code k v qs) : ∀ g, v.ownBlock = some g → g < wr.heap.size := fun g hg => (h.own.lt g hg).2
theorem PuS.push {w wr w6 : World} {p b0 : Nat} {l : Bd} {code : List Int} {k : Nat} {v v' : Value} {qs : List Pu} {q : Pu} {o : Obj} (h : PuS w wr p b0 l code k v qs) (hp : p < w.heap.size) (hgrow : (wr.alloc o).grownBy w6 v.ownBlock) (hq : PuD l q) (hown : w6.ownsRow w.heap.size 71 4 v' (qs.length + 1) (flat Pu.cells qs ++ q.cells)) :
    PuS w w6 p b0 l code k v' (qs ++ [q]) := by
  have hv : ∀ q, v.ownBlock = some q → w.heap.size ≤ q := fun q hq => (h.own.lt q hq).1
  have h1 := h.alloc hp o
  have hs6 : SrcAt w6 p code k := h1.src.grown hgrow (fun g e => by have := hv g e; omega)
  have hg6 : w.grownBy w6 (some p) := by
    cases hvb : v.ownBlock with
    | none => rw [hvb] at hgrow; exact grown_trans h1.grown ⟨hgrow.os, hgrow.tape, hgrow.output, hgrow.size, fun i hi _ => hgrow.block i hi (by simp)⟩
    | some q => rw [hvb] at hgrow; exact grown_new h1.grown hgrow (by have := hv q hvb; omega)
  have hb6 : BdP w6 p b0 l := by
    obtain ⟨h1', h2', a, cap, h3, h4⟩ := h1.bd
    refine ⟨h1', Nat.lt_of_lt_of_le h2' hgrow.size, a, cap, ?_, h4.grownP (p := p) hgrow (by omega) (fun g e => by have := hv g e; omega)⟩
    have e : ∀ i, w6.cell? ⟨b0, i, none⟩ = (wr.alloc o).cell? ⟨b0, i, none⟩ := fun i => World.cell?_of_block (a := ⟨b0, i, none⟩) (hgrow.block b0 (by omega) (fun e => by have := hv b0 e.symm; omega))
    unfold BdAt at *
    rw [e, e, e]
    exact h3
  have e : flat Pu.cells qs ++ q.cells = flat Pu.cells (qs ++ [q]) := by rw [flat_append]; simp [flat]
  rw [e] at hown
  refine ⟨hb6, by rw [List.length_append]; exact hown, hs6, hg6, ?_⟩
  intro r hr
  rw [List.mem_append, List.mem_singleton] at hr
  rcases hr with hr | rfl
  · exact h.pu r hr
  · exact hq
theorem ext_p {w w' : World} {p : Nat} (h : w.grownBy w' (some p)) (hp : p ≤ w.heap.size) : w.grownBy w' (some p) ∧ ∀ b o, b < p → w'.cell? ⟨b, o, none⟩ = w.cell? ⟨b, o, none⟩ :=
  ⟨h, fun b o hb => World.cell?_of_block (a := ⟨b, o, none⟩) (h.block b (by omega) (fun e => by simp at e; omega))⟩
theorem fin_push {W wx : World} {p k b j : Nat} {code : List Int} {ps : List Pc} {T : TypeId} (hj : j < ps.length) (h : wx.heap[b]? = some (.cells #[.int .i8 ps[j].x, .int .i8 ps[j].y, .int .i8 0, .int .i16 0] T (0, 0))) (hb : W.heap.size ≤ b) (hs : SrcAt wx p code k) (hg : W.grownBy wx (some p)) :
    ∃ (b' : Nat) (j : Nat) (hj : j < ps.length), Value.pointer (some ⟨b, 0, none⟩) = .pointer (some ⟨b', 0, none⟩) ∧ W.heap.size ≤ b' ∧ wx.heap[b']? = some (.cells #[.int .i8 ps[j].x, .int .i8 ps[j].y, .int .i8 0, .int .i16 0] T (0, 0)) ∧ SrcAt wx p code k ∧ W.grownBy wx (some p) :=
  ⟨b, j, hj, rfl, hb, h, hs, hg⟩
set_option maxHeartbeats 1600000 in
theorem l02Drawn_any (p b0 : Nat) (l : Bd) (hl : l.ok) (hn : l.ps.length ≤ 1000) (code : List Int) (k : Nat) (w : World) (hs : SrcAt w p code k) (hB : BdP w p b0 l) (hc : BytesOk code) (hk : k ≤ 700000) :
    Calls Try.prog 15 #[.pointer (some ⟨p, 0, none⟩), .pointer (some ⟨b0, 0, none⟩)] w fun e w' => ∃ (v : Value), e = .returned v ∧ ∃ qs : List Pu, (∀ q ∈ qs, PuD l q) ∧ qs.length ≤ 3 ∧ w'.ownsRow w.heap.size 71 4 v qs.length (flat Pu.cells qs) ∧ SrcAt w' p code (k + 100) ∧ w.grownBy w' (some p) := by
  have hlt := hs.lt
  obtain ⟨i0, hi, hz0, hz1, hz2⟩ := info_parts infoPuD
  have HP := Lib.hid (fun w' j (h : SrcAt w' p code j) (hj : j ≤ 900000) (n : Int) (hn : n ≤ 1000000) => pick_any p code j w' n h hc hj hn)
  have S0 : Hid (PuS w (w.alloc (.cells #[] 71)) p b0 l code k (.slice (some ⟨w.heap.size, 0, none⟩) 0 0) []) :=
    Lib.hid ⟨hB.step (World.grownBy_alloc _ _ _), World.ownsRow_made (e := 71) (size := 4) w #[] 0 (Nat.le_refl _) (by simp [maxLen]) rfl, hs.alloc, World.grownBy_alloc _ _ _, by simp⟩
  obtain ⟨ba, bp, a, cap, hbd, hsl⟩ := S0.out.bd
  unfold BdAt at hbd
  obtain ⟨c0, c1, c2⟩ := hbd
  clear hsl
  by_cases h0 : l.ps.length = 0
  · have g0 : ((l.ps.length : Int) == 0) = true := by simp [h0]
    have H0 := Lib.hid h0
    clear h0
    go_enter Try.func15, Try.ntmps15
    go_wp2
    go_ret
    exact ⟨_, rfl, [], by simp, by simp, S0.out.own, S0.out.src.le (by omega), S0.out.grown⟩
  · have g0 : ((l.ps.length : Int) == 0) = false := beq_false_of_ne (by omega)
    have hn1 : 1 ≤ l.ps.length := by omega
    clear h0
    go_enter Try.func15, Try.ntmps15
    go_wp2_with fail
    refine (HP.out _ _ S0.out.src (by omega) _ (by omega)).mono ?_
    rintro e w1 ⟨x, rfl, x0, x1, hs1, hg1⟩
    have S1 := Lib.hid (S0.out.draw hlt hs1 hg1)
    obtain ⟨m0, hm0⟩ : ∃ m0 : Nat, x = (m0 : Int) := ⟨x.toNat, by omega⟩
    subst hm0
    clear c0 c1 c2 S0 hg1 hs1 g0
    go_wp2_with fail
    go_loopw [5, 6] (fun v i wr => ∃ (m : Nat) (qs : List Pu), m ≤ 3 ∧ qs.length + m ≤ 3 ∧ i = .int .i64 (m : Int) ∧ PuS w wr p b0 l code (k + 2 + (3 - m) * 6) v qs) (fun _ i _ => (intOf i).toNat)
    case atStart => exact ⟨m0, [], by omega, by simp; omega, rfl, S1.out.le (by omega)⟩
    case round =>
      clear S1
      obtain ⟨m, qs, hm, hqm, rfl, hS⟩ := hrel
      obtain ⟨W1, hW1⟩ : ∃ W1, W1 = wr := ⟨_, rfl⟩
      subst hW1
      obtain ⟨ba, bp, a, cap, hbd, hsl⟩ := hS.bd
      unfold BdAt at hbd
      obtain ⟨c0, c1, c2⟩ := hbd
      have hs := hS.src
      have HS := Lib.hid hS
      obtain ⟨rb, ro, rfl, hrb, HGET⟩ : ∃ rb ro, a = some ⟨rb, ro, none⟩ ∧ rb < p ∧ Hid (∀ j (hj : j < l.ps.length), PcAt W1 rb (ro + j * 5) l.ps[j]) := by
        obtain ⟨rb, ro, rfl, hrb, -⟩ := pcs_get hsl (k := 0) (by omega)
        refine ⟨rb, ro, rfl, hrb, Lib.hid (fun j hj => ?_)⟩
        obtain ⟨rb', ro', he, -, hat⟩ := pcs_get hsl hj
        cases he
        exact hat
      clear hS hsl
      by_cases hm1 : (m : Int) > 0
      · have hlW : w.heap.size ≤ W1.heap.size := HS.out.grown.size
        have hpW : p < W1.heap.size := by omega
        have hcl : l.ps.length ≤ 1000 := hn
        go_wp2_with fail
        go_cut [7] from 18 to 48 (fun s7 wx => ∃ (b : Nat) (j : Nat) (hj : j < l.ps.length), s7 = .pointer (some ⟨b, 0, none⟩) ∧ W1.heap.size ≤ b ∧ wx.heap[b]? = some (.cells #[.int .i8 l.ps[j].x, .int .i8 l.ps[j].y, .int .i8 0, .int .i16 0] 71 (0, 0)) ∧ SrcAt wx p code (k + 2 + (3 - m) * 6 + 2) ∧ W1.grownBy wx (some p))
        case first =>
          go_region_held3 (fun w' => W1.grownBy w' (some p) ∧ ∀ b o, b < p → w'.cell? ⟨b, o, none⟩ = W1.cell? ⟨b, o, none⟩) ((refine ext_p ?_ (by omega); exact (by repeat (first | with_reducible exact grown_refl _ _ | with_reducible assumption | with_reducible apply grownS_drewN | with_reducible apply grownS_drew | with_reducible apply grownS_alloc | (with_reducible refine grown_setNew ?_ (by first | omega | (simp; omega)) _) | with_reducible refine grown_trans ?_ (by with_reducible assumption))))) (first | (go_at_call 29; refine (HP.out _ _ (by repeat (first | with_reducible assumption | with_reducible apply SrcAt.drewN | with_reducible apply SrcAt.drew | with_reducible apply SrcAt.alloc | (with_reducible refine SrcAt.setNew ?_ (by omega) _))) (by omega) _ (by omega)).mono ?_; rintro e w2 ⟨u, rfl, u0, u1, hs2, hg2⟩; have hp2 := hs2.lt; obtain ⟨j, hj, hj2⟩ : ∃ j : Nat, u = (j : Int) ∧ j < l.ps.length := ⟨u.toNat, by omega, by omega⟩; subst hj; have hj3 : (j : Int) < (l.ps.length : Int) := (by omega); obtain ⟨q0, q1, -⟩ := HGET.out j hj2; (try (have hbk := Lib.hid (alloc_keptD hg2 hpW); obtain ⟨y0, y1, y2, y3, z0, z1, z2, z3⟩ := four_cells hbk.out)); have hz1 := hg2.size; (try simp [Nat.succ_le_iff] at hz1)))
          all_goals
            go_wp2_with fail
            go_meet
            with_reducible apply fin_push hj2
            · first | with_reducible exact heap_alloc_new _ _ | with_reducible exact four_set hbk.out _ _ _ _
            · omega
            · exact (by repeat (first | with_reducible assumption | with_reducible apply SrcAt.drewN | with_reducible apply SrcAt.drew | with_reducible apply SrcAt.alloc | (with_reducible refine SrcAt.setNew ?_ (by omega) _)))
            · exact (by repeat (first | with_reducible exact grown_refl _ _ | with_reducible assumption | with_reducible apply grownS_drewN | with_reducible apply grownS_drew | with_reducible apply grownS_alloc | (with_reducible refine grown_setNew ?_ (by first | omega | (simp; omega)) _) | with_reducible refine grown_trans ?_ (by with_reducible assumption)))
        case rest =>
          obtain ⟨b, j, hj, rfl, hbW, hblk, hs2, hg2⟩ := hcut
          have HS2 := Lib.hid (HS.out.draw hlt hs2 hg2)
          have HQV : Hid (∀ g, Value.ownBlock u5 = some g → g ≠ b) := Lib.hid (fun g hg e => by have := HS.out.own_lt g hg; omega)
          have hwb : w.heap.size ≤ b := by omega
          have hqb := lt_of_block hblk
          obtain ⟨m, rfl⟩ : ∃ m', m = m' + 1 := ⟨m - 1, by omega⟩
          clear hg2 hs HS HGET c0 c1 c2
          go_wp2_with fail
          refine (HP.out _ _ hs2 (by omega) _ (by omega)).mono ?_
          rintro e w3 ⟨s, rfl, s0, s1, hs3, hg3⟩
          have s2 : s ≤ 3 := by omega
          have es : IntKind.i8.wrap s = s := by simp [IntKind.wrap, IntKind.bits, IntKind.signed]; omega
          have HS3 := Lib.hid (HS2.out.draw hlt hs3 hg3)
          have hq3 := blk_kept hblk hg3 (by simp; omega)
          obtain ⟨a0, a1, a2, a3, f0, f1, f2, f3⟩ := four_cells hq3
          have HS4 := Lib.hid (HS3.out.set (o := 2) hlt hwb HQV.out (.int .i8 s))
          have hq4 : (w3.setCell ⟨b, 2, none⟩ (.int .i8 s)).heap[b]? = some (.cells #[.int .i8 l.ps[j].x, .int .i8 l.ps[j].y, .int .i8 s, .int .i16 0] 71 (0, 0)) := set_block hq3 2 (.int .i8 s)
          have HQ4 := Lib.hid hq4
          clear hq4 hq3 hblk hs2 HS2 HS3 hg3 hs3
          go_wp2_with fail
          have hs4 := HS4.out.src
          refine (HP.out _ _ hs4 (by omega) _ (by omega)).mono ?_
          rintro e w5 ⟨t, rfl, t0, t1, hs5, hg5⟩
          have t2 : t ≤ 5 := by omega
          have et : IntKind.i16.wrap t = t := by simp [IntKind.wrap, IntKind.bits, IntKind.signed]; omega
          have HS5 := Lib.hid (HS4.out.draw hlt hs5 hg5)
          have hq5 := blk_kept HQ4.out hg5 (by simp; omega)
          clear a0 a1 a2 a3 f0 f1 f2 f3 hs4 hg5 hs5 HS4 HQ4
          obtain ⟨a0, a1, a2, a3, f0, f1, f2, f3⟩ := four_cells hq5
          have HS6 := Lib.hid (HS5.out.set (o := 3) hlt hwb HQV.out (.int .i16 t))
          have HOWN := Lib.hid HS6.out.own
          have hzq := lt_of_block hq5
          have hln : qs.length ≤ 3 := by omega
          clear hq5 HS5
          go_wp2_with (at_builtin; go_must (refine wpList_append_sl _ rfl _ _ 29 rfl w.heap.size 71 i0 (.agg #[.int .i8 0, .int .i8 0, .int .i8 0, .int .i16 0]) 4 6 Try.underlying29 hi hz0 hz1 hz2 rfl (by decide) _ _ _ rfl (own_below HOWN.out (bl_alloc (Below.refl _ _)) (Nat.le_refl _)) (some ⟨_, 0, none⟩) 1 1 [.int .i8 l.ps[j].x, .int .i8 l.ps[j].y, .int .i8 s, .int .i16 t] rfl (sl_newD _ #[.int .i8 l.ps[j].x, .int .i8 l.ps[j].y, .int .i8 s, .int .i16 t] _ _ (by simp)) rfl (Pu.one ⟨l.ps[j].x, l.ps[j].y, s, t⟩) (by unfold maxLen; omega) (by omega) (by simp; omega) ?_); intro v3 wz hown3 hgrow; obtain ⟨a3, cap3, rfl, -⟩ := own_at hown3)
          go_roundw
          case rel => exact ⟨m, qs ++ [⟨l.ps[j].x, l.ps[j].y, s, t⟩], by omega, by simp only [List.length_append, List.length_cons, List.length_nil]; omega, by go_num, (HS6.out.push (q := ⟨l.ps[j].x, l.ps[j].y, s, t⟩) hlt hgrow (PuD.mk' hl hj s0 s2 t0 t2) hown3).le (by omega)⟩
          case measure => simp [intOf]
      · go_wp2_with fail
        go_ret
        exact ⟨_, rfl, qs, HS.out.pu, by omega, HS.out.own, HS.out.src.le (by omega), HS.out.grown⟩
end Go.Proofs.Ytmeefmoblkiebaa
/- Contracts: the board and the pushes that the laws draw. -/
namespace Go.Proofs.Ytmeefmoblkiebaa
open Go.RowKit
set_option linter.unusedVariables false
set_option linter.unusedSimpArgs false
set_option maxHeartbeats 400000
set_option maxRecDepth 100000
theorem below_of_grown {a w w' : World} {p : Nat} (h : Below a.heap.size a w) (hg : w.grownBy w' (some p)) (hp : a.heap.size ≤ p) : Below a.heap.size a w' := bl_grown h hg (fun k e => by cases e; exact hp)
theorem a2Board_any (a : Option Addr) (cap : Nat) (code : List Int) (w : World) (h : SlAt w.heap.size w a (flat U8c code)) (hc : BytesOk code) :
    Calls Try.prog 5 #[.slice a code.length cap] w fun e w' => ∃ (wd hg : Int) (v : Value), e = .returned (bdv wd hg v) ∧ ∃ ps : List Pc, vBd ⟨wd, hg, ps⟩ = true ∧ (Bd.mk wd hg ps).ok ∧ ps.length ≤ 24 ∧ w'.ownsRow w.heap.size 64 5 v ps.length (flat Pc.cells ps) ∧ Below w.heap.size w w' := by
  obtain ⟨W, hW⟩ : ∃ W, W = w.alloc (.cells #[.int .i8 0, .int .i8 0, .slice none 0 0] 27) := ⟨_, rfl⟩
  have hWs : w.heap.size < W.heap.size := by rw [hW]; simp
  have hWb : Below w.heap.size w W := by rw [hW]; exact bl_alloc (Below.refl _ _)
  have hWq : W.heap[w.heap.size]? = some (.cells #[.int .i8 0, .int .i8 0, .slice none 0 0] 27 (0, 0)) := by rw [hW]; exact heap_alloc_new _ _
  have HF := Lib.hid (l00From_any a cap code W ((h.below hWb (Nat.le_refl _)).mono (Nat.le_of_lt hWs)))
  have HWb := Lib.hid hWb
  have HWq := Lib.hid hWq
  clear hWb hWq
  go_enter Try.func5, Try.ntmps5
  go_wp2_with fail
  rw [← hW]
  clear hW
  refine HF.out.mono ?_
  rintro e w1 ⟨rfl, hs1, hb1⟩
  have HD := Lib.hid (l01Drawn_any W.heap.size code 0 w1 hs1 hc (by omega))
  have HB1 := Lib.hid hb1
  clear hs1 hb1
  go_wp2_with fail
  refine HD.out.mono ?_
  rintro e w2 ⟨wd, hg, v, rfl, ps, hv, hok, hln, hown, -, hg2⟩
  obtain ⟨av, capv, rfl, -⟩ := own_at hown
  have hz1 := HB1.out.size
  have hq1 : w1.heap[w.heap.size]? = _ := (HB1.out.block w.heap.size hWs).trans HWq.out
  have hq2 := blk_kept hq1 hg2 (by simp; omega)
  obtain ⟨d0, d1, d2, df⟩ := three_cells hq2
  have hb2 := below_of_grown (HWb.out.trans (HB1.out.mono (Nat.le_of_lt hWs))) hg2 (Nat.le_of_lt hWs)
  clear hq1
  go_wp2_with fail
  have hh := set_block (set_block (set_block hq2 0 (.int .i8 wd)) 1 (.int .i8 hg)) 2 (.slice av ps.length capv)
  have hk : ∀ q, (Value.slice av ps.length capv).ownBlock = some q → some q ≠ some w.heap.size := fun q hq e => by have := (hown.lt q hq).1; simp at e; omega
  refine bodyPost_ret (v := bdv wd hg (.slice av ps.length capv)) (results_cell_row Try.results5 _ _ w.heap.size 27 _ (0, 0) _ rfl hh Try.underlying27 rfl (by kernel_rfl)) rfl ⟨wd, hg, .slice av ps.length capv, rfl, ps, hv, hok, hln, ?_, (by repeat (first | with_reducible exact Below.refl _ _ | with_reducible assumption | with_reducible apply bl_drewN | with_reducible apply bl_drew | with_reducible apply bl_alloc | (with_reducible refine bl_set ?_ (by first | (simp; done) | (simp; omega)) _) | with_reducible refine bl_trans ?_ (by with_reducible assumption)))⟩
  exact own_mono (own_kept (own_kept (own_kept hown (grown_set1 _ _ 0 _) hk) (grown_set1 _ _ 1 _) hk) (grown_set1 _ _ 2 _) hk) (by omega)
theorem a2Pushes_any (a : Option Addr) (cap : Nat) (code : List Int) (wd hg : Int) (s : Value) (ps : List Pc) (w : World) (h : SlAt w.heap.size w a (flat U8c code)) (hc : BytesOk code) (hps : PV w s ps) (hok : (Bd.mk wd hg ps).ok) (hn : ps.length ≤ 1000) :
    Calls Try.prog 6 #[.slice a code.length cap, bdv wd hg s] w fun e w' => ∃ v : Value, e = .returned v ∧ ∃ qs : List Pu, vPus ⟨wd, hg, ps⟩ qs = true ∧ PusOk qs ∧ qs.length ≤ 3 ∧ w'.ownsRow w.heap.size 71 4 v qs.length (flat Pu.cells qs) ∧ Below w.heap.size w w' := by
  obtain ⟨ap, capp, rfl, hps⟩ := hps
  obtain ⟨W, hW⟩ : ∃ W, W = w.alloc (.cells #[.int .i8 wd, .int .i8 hg, .slice ap ps.length capp] 27) := ⟨_, rfl⟩
  have hWs : w.heap.size < W.heap.size := by rw [hW]; simp
  have hWb : Below w.heap.size w W := by rw [hW]; exact bl_alloc (Below.refl _ _)
  have hWq : W.heap[w.heap.size]? = some (.cells #[.int .i8 wd, .int .i8 hg, .slice ap ps.length capp] 27 (0, 0)) := by rw [hW]; exact heap_alloc_new _ _
  have HF := Lib.hid (l00From_any a cap code W ((h.below hWb (Nat.le_refl _)).mono (Nat.le_of_lt hWs)))
  have HWb := Lib.hid hWb
  have HWq := Lib.hid hWq
  clear hWb hWq
  go_enter Try.func6, Try.ntmps6
  go_wp2_with fail
  rw [← hW]
  clear hW
  refine HF.out.mono ?_
  rintro e w1 ⟨rfl, hs1, hb1⟩
  have hq1 : w1.heap[w.heap.size]? = _ := (hb1.block w.heap.size hWs).trans HWq.out
  have hlt1 := hs1.lt
  have hb01 := HWb.out.trans (hb1.mono (Nat.le_of_lt hWs))
  obtain ⟨d0, d1, d2, df⟩ := three_cells hq1
  have hB : BdP w1 W.heap.size w.heap.size ⟨wd, hg, ps⟩ := ⟨hWs, hlt1, ap, capp, ⟨d0, d1, d2⟩, (hps.below hb01 (Nat.le_refl _)).mono (Nat.le_of_lt hWs)⟩
  have HD := Lib.hid (l02Drawn_any W.heap.size w.heap.size ⟨wd, hg, ps⟩ hok hn code 0 w1 hs1 hB hc (by omega))
  have HB1 := Lib.hid hb01
  have hz1 := hb1.size
  clear hs1 hb1 hb01 hB d0 d1 d2 df hq1
  go_wp2_with fail
  refine HD.out.mono ?_
  rintro e w2 ⟨v, rfl, qs, hpu, hql, hown, -, hg2⟩
  obtain ⟨g1, g2⟩ := PuD.vPus hpu (by omega)
  have hb2 := below_of_grown HB1.out hg2 (Nat.le_of_lt hWs)
  have hown2 := own_mono (base := w.heap.size) hown (by omega)
  go_wp2
  go_ret
  exact ⟨v, rfl, qs, g1, g2, hql, hown2, hb2⟩
end Go.Proofs.Ytmeefmoblkiebaa
/- Contracts: laws.a2Long, laws.a2At. -/
namespace Go.Proofs.Ytmeefmoblkiebaa
open Go.RowKit
set_option linter.unusedVariables false
set_option linter.unusedSimpArgs false
set_option maxHeartbeats 400000
set_option maxRecDepth 100000
theorem a2Long_any (a a' : Option Addr) (n n' cap cap' : Nat) (w : World) :
    Calls Try.prog 4 #[.slice a n cap, .slice a' n' cap'] w fun e w' => e = .returned (.bool (decide (3000 < n) || decide (3000 < n'))) ∧ w = w' := by
  rcases dec_cases ((n : Int) > 3000) with ⟨g1, g2⟩ | ⟨g1, g2⟩
  · have h1 : decide (3000 < n) = true := by simp; omega
    go_enter Try.func4, Try.ntmps4
    go_wp2
    go_ret
    exact ⟨by simp [h1], rfl⟩
  · have h1 : decide (3000 < n) = false := by simp; omega
    rcases dec_cases ((n' : Int) > 3000) with ⟨g3, g4⟩ | ⟨g3, g4⟩
    · have h2 : decide (3000 < n') = true := by simp; omega
      go_enter Try.func4, Try.ntmps4
      go_wp2
      go_ret
      exact ⟨by simp [h1, h2], rfl⟩
    · have h2 : decide (3000 < n') = false := by simp; omega
      go_enter Try.func4, Try.ntmps4
      go_wp2
      go_ret
      exact ⟨by simp [h1, h2], rfl⟩
theorem a2At_any {B : Nat} (a : Option Addr) (cap : Nat) (code : List Int) (i n : Int) (w : World) (h : SlAt B w a (flat U8c code)) (hc : BytesOk code) (hi : 0 ≤ i) (hi2 : i ≤ 100) :
    Calls Try.prog 10 #[.slice a code.length cap, .int .i64 i, .int .i64 n] w fun e w' => ∃ v : Int, e = .returned (.int .i64 v) ∧ 0 ≤ v ∧ v < max n 1 ∧ w = w' := by
  have hcl := hc.1
  rcases dec_cases (i ≥ (code.length : Int)) with ⟨g1, g2⟩ | ⟨g1, g2⟩
  · go_enter Try.func10, Try.ntmps10
    go_wp2
    go_ret
    exact ⟨0, rfl, by omega, by omega, rfl⟩
  · rcases dec_cases (n < 1) with ⟨g3, g4⟩ | ⟨g3, g4⟩
    · go_enter Try.func10, Try.ntmps10
      go_wp2
      go_ret
      exact ⟨0, rfl, by omega, by omega, rfl⟩
    · obtain ⟨j, rfl⟩ : ∃ j : Nat, i = (j : Int) := ⟨i.toNat, by omega⟩
      have hj : j < code.length := by omega
      obtain ⟨b, off, rfl, hbp, hget⟩ := h.get U8c_len (by omega) hj
      have hget0 := hget 0 _ rfl
      rw [Nat.mul_one, Nat.add_zero] at hget0
      obtain ⟨b0, b1⟩ := hc.2 j hj
      obtain ⟨v, hv⟩ : ∃ v, v = code[j] := ⟨_, rfl⟩
      rw [← hv] at hget0 b0 b1
      have hwv : IntKind.i64.wrap v = v := wrap_i64' _ (by omega) (by omega)
      clear hget hv
      go_enter Try.func10, Try.ntmps10
      go_wp2
      go_ret
      exact ⟨_, rfl, Int.emod_nonneg _ (by omega), Int.lt_of_lt_of_le (Int.emod_lt_of_pos _ (by omega)) (by omega), rfl⟩
end Go.Proofs.Ytmeefmoblkiebaa
/- Contracts: the order of hits, the least hit of a list. -/
namespace Go.Proofs.Ytmeefmoblkiebaa
open Go.RowKit
set_option linter.unusedVariables false
set_option linter.unusedSimpArgs false
set_option maxHeartbeats 400000
set_option maxRecDepth 100000
def cmpI (a b : Int) : Int := if a < b then -1 else if b < a then 1 else 0
theorem cmpNaN_any (a : Int) (w : World) : Calls Try.prog 76 #[.int .i64 a] w fun e w' => e = .returned (.bool false) ∧ w = w' := by
  go_enter Try.func76, Try.ntmps76
  go_wp2
  exact bodyPost_ret (v := .bool false) (by simp [results, Try.results76, go_sem]) rfl ⟨rfl, rfl⟩
theorem compare_any (a b : Int) (w : World) : Calls Try.prog 73 #[.int .i64 a, .int .i64 b] w fun e w' => e = .returned (.int .i64 (cmpI a b)) ∧ w = w' := by
  have HV := Lib.hid (show (a < b → cmpI a b = -1) ∧ (¬ a < b → b < a → cmpI a b = 1) ∧ (¬ a < b → ¬ b < a → cmpI a b = 0) from ⟨fun h => if_pos h, fun h h2 => by unfold cmpI; rw [if_neg h, if_pos h2], fun h h2 => by unfold cmpI; rw [if_neg h, if_neg h2]⟩)
  generalize cmpI a b = r at HV ⊢
  by_cases h1 : a < b
  · have H := HV.out.1 h1
    subst H
    go_enter Try.func73, Try.ntmps73
    go_wp2_with (go_at_call 76; refine (cmpNaN_any _ _).mono ?_; rintro e w' ⟨rfl, rfl⟩)
    go_ret
    exact ⟨rfl, rfl⟩
  · by_cases h2 : b < a
    · have H := HV.out.2.1 h1 h2
      subst H
      go_enter Try.func73, Try.ntmps73
      go_wp2_with (go_at_call 76; refine (cmpNaN_any _ _).mono ?_; rintro e w' ⟨rfl, rfl⟩)
      go_ret
      exact ⟨rfl, rfl⟩
    · have H := HV.out.2.2 h1 h2
      subst H
      go_enter Try.func73, Try.ntmps73
      go_wp2_with (go_at_call 76; refine (cmpNaN_any _ _).mono ?_; rintro e w' ⟨rfl, rfl⟩)
      go_ret
      exact ⟨rfl, rfl⟩
/-- The first of numbers that is not zero. -/
def orI : List Int → Int
  | [] => 0
  | x :: r => if x ≠ 0 then x else orI r
theorem orI_skip : ∀ (xs ys : List Int), (∀ x ∈ xs, x = 0) → orI (xs ++ ys) = orI ys := by
  intro xs
  induction xs with
  | nil => intro ys _; rfl
  | cons x xs ih =>
    intro ys h
    have h0 : x = 0 := h x List.mem_cons_self
    subst h0
    show (if (0 : Int) ≠ 0 then 0 else orI (xs ++ ys)) = _
    rw [if_neg (by simp)]
    exact ih ys (fun y hy => h y (List.mem_cons_of_mem _ hy))
def inC (n : Int) : List Value := [.int .i64 n]
theorem inC_len (n : Int) : (inC n).length = 1 := rfl
theorem ints_get {B : Nat} {w : World} {a : Option Addr} {xs : List Int} (h : SlAt B w a (flat inC xs)) {k : Nat} (hk : k < xs.length) : ∃ b off, a = some ⟨b, off, none⟩ ∧ b < B ∧ w.cell? ⟨b, off + k, none⟩ = some (.int .i64 xs[k]) := by
  obtain ⟨b, off, h1, h2, h3⟩ := SlAt.get inC_len (by omega) h hk
  refine ⟨b, off, h1, h2, ?_⟩
  have := h3 0 _ rfl
  rwa [Nat.mul_one, Nat.add_zero] at this
theorem or_any {B : Nat} (a : Option Addr) (cap : Nat) (xs : List Int) (w : World) (h : SlAt B w a (flat inC xs)) (hB : B ≤ w.heap.size) (hn : xs.length ≤ 1000) : Calls Try.prog 72 #[.slice a xs.length cap] w fun e w' => e = .returned (.int .i64 (orI xs)) ∧ w = w' := by
  have HV : Hid (∀ k (hk : k < xs.length), (∀ x ∈ xs.take k, x = 0) → orI xs = if xs[k] ≠ 0 then xs[k] else orI (xs.drop (k + 1))) := Lib.hid (by
    intro k hk h0
    have := orI_skip (xs.take k) (xs.drop k) h0
    rw [List.take_append_drop, List.drop_eq_getElem_cons hk] at this
    exact this)
  have HE : Hid ((∀ x ∈ xs, x = 0) → orI xs = 0) := Lib.hid (by
    intro h0
    have := orI_skip xs [] h0
    rw [List.append_nil] at this
    exact this)
  generalize orI xs = r at HV HE ⊢
  go_enter Try.func72, Try.ntmps72
  go_wp2
  go_loopw [8] (fun i wr => ∃ k : Nat, k ≤ xs.length ∧ i = .int .i64 k ∧ Hid (∀ x ∈ xs.take k, x = 0) ∧ w = wr) (fun i _ => xs.length - (intOf i).toNat)
  case atStart => exact ⟨0, by omega, rfl, Lib.hid (by simp), rfl⟩
  case round =>
    obtain ⟨k, hk, rfl, h0, rfl⟩ := hrel
    by_cases hlt : k < xs.length
    · obtain ⟨b, off, rfl, hb, hat⟩ := ints_get h hlt
      have HK := Lib.hid (HV.out k hlt h0.out)
      have HT : Hid (xs[k] = 0 → ∀ x ∈ xs.take (k + 1), x = 0) := Lib.hid (by
        intro hz x hx
        rw [List.take_succ_eq_append_getElem hlt, List.mem_append] at hx
        rcases hx with hx | hx
        · exact h0.out x hx
        · rw [List.mem_singleton] at hx; rw [hx]; exact hz)
      generalize xs[k] = x at hat HK HT
      by_cases hx : x = 0
      · subst hx
        have HT2 := Lib.hid (HT.out rfl)
        go_wp2
        go_roundw
        case rel => exact ⟨k + 1, by omega, by go_num, HT2, by simp⟩
        case measure => simp [intOf]; omega
      · have HK2 := HK.out
        rw [if_pos hx] at HK2
        subst HK2
        go_wp2
        go_ret
        exact ⟨rfl, rfl⟩
    · have hkn : k = xs.length := by omega
      subst hkn
      have H := HE.out (by have := h0.out; rwa [List.take_length] at this)
      subst H
      go_wp2
      go_ret
      exact ⟨rfl, rfl⟩
/-- How two hits compare. -/
def hoV (a b : Hi) : Int := orI [cmpI a.t b.t, cmpI a.p b.p, cmpI a.s b.s, cmpI a.b b.b]
theorem hoV_lt (a b : Hi) : hoV a b < 0 ↔ a.t < b.t ∨ (a.t = b.t ∧ (a.p < b.p ∨ (a.p = b.p ∧ (a.s < b.s ∨ (a.s = b.s ∧ a.b < b.b))))) := by
  unfold hoV orI orI orI orI orI cmpI
  repeat' split
  all_goals omega
theorem hoV_bd (a b : Hi) : -1 ≤ hoV a b ∧ hoV a b ≤ 1 := by
  unfold hoV orI orI orI orI orI cmpI
  repeat' split
  all_goals omega
set_option maxHeartbeats 1600000 in
theorem hitOrder_any (a b : Hi) (w : World) : Calls Try.prog 54 #[a.val, b.val] w fun e w' => e = .returned (.int .i64 (hoV a b)) ∧
    w' = (((w.alloc (.cells #[.int .i64 a.t, .int .i64 a.p, .int .i64 a.s, .int .i64 a.b] 103)).alloc (.cells #[.int .i64 b.t, .int .i64 b.p, .int .i64 b.s, .int .i64 b.b] 103)).alloc (.cells #[.int .i64 (cmpI a.t b.t), .int .i64 (cmpI a.p b.p), .int .i64 (cmpI a.s b.s), .int .i64 (cmpI a.b b.b)] 3)).drew := by
  have h2 := heap_alloc_new (w.alloc (.cells #[.int .i64 a.t, .int .i64 a.p, .int .i64 a.s, .int .i64 a.b] 103)) (.cells #[.int .i64 b.t, .int .i64 b.p, .int .i64 b.s, .int .i64 b.b] 103)
  have h1 := Below.heap_alloc (w.alloc (.cells #[.int .i64 a.t, .int .i64 a.p, .int .i64 a.s, .int .i64 a.b] 103)) (.cells #[.int .i64 b.t, .int .i64 b.p, .int .i64 b.s, .int .i64 b.b] 103) w.heap.size (by simp)
  rw [heap_alloc_new] at h1
  simp only [World.size_alloc] at h2
  have HC := Lib.hid (fun x y w' => compare_any x y w')
  have HV := Lib.hid (show hoV a b = orI [cmpI a.t b.t, cmpI a.p b.p, cmpI a.s b.s, cmpI a.b b.b] from rfl)
  generalize hoV a b = r at HV ⊢
  have HO := Lib.hid (fun (c1 c2 c3 c4 : Int) (w' : World) (g : Nat) (hh : w'.heap[g]? = some (.cells #[.int .i64 c1, .int .i64 c2, .int .i64 c3, .int .i64 c4] 3 (0, 0))) => (show Calls Try.prog 72 #[.slice (some ⟨g, 0, none⟩) 4 4] w' (fun e w'' => e = .returned (.int .i64 (orI [c1, c2, c3, c4])) ∧ w' = w'') from or_any (B := w'.heap.size) (some ⟨g, 0, none⟩) 4 [c1, c2, c3, c4] w' (by
    intro j hj
    have hj4 : j < 4 := hj
    refine ⟨g, 0, rfl, (Array.getElem?_eq_some_iff.1 hh).1, ?_⟩
    rw [cell_of_row _ _ _ _ _ _ hh, Nat.zero_add]
    have : j = 0 ∨ j = 1 ∨ j = 2 ∨ j = 3 := by omega
    rcases this with rfl | rfl | rfl | rfl <;> rfl) (Nat.le_refl _) (by simp)))
  go_enter Try.func54, Try.ntmps54
  go_upto_region 1 with fail
  obtain ⟨W, hW⟩ : ∃ W, W = (w.alloc (.cells #[.int .i64 a.t, .int .i64 a.p, .int .i64 a.s, .int .i64 a.b] 103)).alloc (.cells #[.int .i64 b.t, .int .i64 b.p, .int .i64 b.s, .int .i64 b.b] 103) := ⟨_, rfl⟩
  rw [← hW] at h1 h2 ⊢
  have x0 : W.cell? ⟨w.heap.size, 0, none⟩ = some (.int .i64 a.t) := by rw [cell_of_row _ _ _ _ _ _ h1]; rfl
  have x1 : W.cell? ⟨w.heap.size, 1, none⟩ = some (.int .i64 a.p) := by rw [cell_of_row _ _ _ _ _ _ h1]; rfl
  have x2 : W.cell? ⟨w.heap.size, 2, none⟩ = some (.int .i64 a.s) := by rw [cell_of_row _ _ _ _ _ _ h1]; rfl
  have x3 : W.cell? ⟨w.heap.size, 3, none⟩ = some (.int .i64 a.b) := by rw [cell_of_row _ _ _ _ _ _ h1]; rfl
  have y0 : W.cell? ⟨w.heap.size + 1, 0, none⟩ = some (.int .i64 b.t) := by rw [cell_of_row _ _ _ _ _ _ h2]; rfl
  have y1 : W.cell? ⟨w.heap.size + 1, 1, none⟩ = some (.int .i64 b.p) := by rw [cell_of_row _ _ _ _ _ _ h2]; rfl
  have y2 : W.cell? ⟨w.heap.size + 1, 2, none⟩ = some (.int .i64 b.s) := by rw [cell_of_row _ _ _ _ _ _ h2]; rfl
  have y3 : W.cell? ⟨w.heap.size + 1, 3, none⟩ = some (.int .i64 b.b) := by rw [cell_of_row _ _ _ _ _ _ h2]; rfl
  have hsz : w.heap.size + 1 < W.heap.size := (Array.getElem?_eq_some_iff.1 h2).1
  have HW := Lib.hid hW
  clear h1 h2 hW
  go_region_held3 (fun w' => w'.cell? ⟨w.heap.size, 0, none⟩ = some (.int .i64 a.t) ∧ w'.cell? ⟨w.heap.size, 1, none⟩ = some (.int .i64 a.p) ∧ w'.cell? ⟨w.heap.size, 2, none⟩ = some (.int .i64 a.s) ∧ w'.cell? ⟨w.heap.size, 3, none⟩ = some (.int .i64 a.b) ∧ w'.cell? ⟨w.heap.size + 1, 0, none⟩ = some (.int .i64 b.t) ∧ w'.cell? ⟨w.heap.size + 1, 1, none⟩ = some (.int .i64 b.p) ∧ w'.cell? ⟨w.heap.size + 1, 2, none⟩ = some (.int .i64 b.s) ∧ w'.cell? ⟨w.heap.size + 1, 3, none⟩ = some (.int .i64 b.b)) (go_keep) (first | (go_at_call 73; refine (HC.out _ _ _).mono ?_; rintro e w' ⟨rfl, rfl⟩) | (go_at_call 72; refine (HO.out _ _ _ _ (World.drew (W.alloc _)) W.heap.size (heap_alloc_new W _)).mono ?_; rintro e w' ⟨rfl, rfl⟩))
  go_wp2
  go_ret
  exact ⟨by rw [HV.out]; rfl, by rw [HW.out]⟩
end Go.Proofs.Ytmeefmoblkiebaa
/- Contracts: the least hit of a list. -/
namespace Go.Proofs.Ytmeefmoblkiebaa
open Go.RowKit
set_option linter.unusedVariables false
set_option linter.unusedSimpArgs false
set_option maxHeartbeats 400000
set_option maxRecDepth 100000
theorem hoV_trans {x y z : Hi} (h1 : ¬ hoV x y < 0) (h2 : ¬ hoV y z < 0) : ¬ hoV x z < 0 := by
  rw [hoV_lt] at *; omega
theorem hoV_asym {x y : Hi} (h1 : hoV x y < 0) : ¬ hoV y x < 0 := by
  rw [hoV_lt] at *; omega
theorem hoV_self (x : Hi) : ¬ hoV x x < 0 := by rw [hoV_lt]; omega
theorem own_hiAt {w : World} {base e g : Nat} {f : Hi} (h : w.ownsRow base e 4 (.slice (some ⟨g, 0, none⟩) 1 1) 1 (Hi.cells f)) : HiAt w g 0 f :=
  ⟨by rw [h.cellAt _ (by omega)]; rfl, by rw [h.cellAt _ (by omega)]; rfl, by rw [h.cellAt _ (by omega)]; rfl, by rw [h.cellAt _ (by omega)]; rfl⟩
theorem hitOrder_below (a b : Hi) (w : World) : Calls Try.prog 54 #[a.val, b.val] w fun e w' => e = .returned (.int .i64 (hoV a b)) ∧ Below w.heap.size w w' :=
  (hitOrder_any a b w).mono fun e w' ⟨h1, h2⟩ => ⟨h1, by rw [h2]; exact bl_drew (bl_alloc (bl_alloc (bl_alloc (Below.refl _ _))))⟩
theorem eg_hitOrder (args : Array Value) (w : World) : (callFunc 54 args).run Try.prog w = .ok (.enter 54 args) w := by kernel_rfl
set_option maxHeartbeats 1600000 in
theorem minFuncHi_any {B : Nat} (a : Option Addr) (cap : Nat) (ps : List Hi) (w : World) (h : SlAt B w a (flat Hi.cells ps)) (hB : B ≤ w.heap.size) (hn : ps.length ≤ 10000000) (h1 : 1 ≤ ps.length) :
    Calls Try.prog 53 #[.slice a ps.length cap, .func (.func 54) #[] #[]] w fun e w' => ∃ m, e = .returned m.val ∧ m ∈ ps ∧ (∀ y ∈ ps, 0 ≤ hoV y m) ∧ Below w.heap.size w w' := by
  have HO := Lib.hid (fun a b w' => hitOrder_below a b w')
  have eg := eg_hitOrder
  obtain ⟨b, off, rfl, hbB, hat⟩ := his_get h (k := 0) (by omega)
  have hbw : b < w.heap.size := by omega
  have hat0 := hat
  unfold HiAt at hat
  simp only [Nat.zero_mul, Nat.add_zero] at hat
  go_enter Try.func53, Try.ntmps53
  go_wp2
  have o4 := own_newAt w #[.int .i64 0, .int .i64 0, .int .i64 0, .int .i64 0] 103 4 w.heap.size w.heap.size rfl (Nat.le_refl _) rfl _ rfl
  have o4b := own_below o4 (bl_alloc (o := .cells #[.int .i64 ps[0].t, .int .i64 ps[0].p, .int .i64 ps[0].s, .int .i64 ps[0].b] 103) (Below.refl _ _)) (Nat.le_refl _)
  have o5 := own_newAt (w.alloc (.cells #[.int .i64 0, .int .i64 0, .int .i64 0, .int .i64 0] 103)) #[.int .i64 ps[0].t, .int .i64 ps[0].p, .int .i64 ps[0].s, .int .i64 ps[0].b] 103 4 w.heap.size (w.heap.size + 1) (by simp) (by omega) rfl _ rfl
  have hb5 : Below w.heap.size w ((w.alloc (.cells #[.int .i64 0, .int .i64 0, .int .i64 0, .int .i64 0] 103)).alloc (.cells #[.int .i64 ps[0].t, .int .i64 ps[0].p, .int .i64 ps[0].s, .int .i64 ps[0].b] 103)) := (by repeat (first | with_reducible exact Below.refl _ _ | with_reducible assumption | with_reducible apply bl_drewN | with_reducible apply bl_drew | with_reducible apply bl_alloc | (with_reducible refine bl_set ?_ (by first | (simp; done) | (simp; omega)) _) | with_reducible refine bl_trans ?_ (by with_reducible assumption)))
  obtain ⟨W, hW⟩ : ∃ W, W = (w.alloc (.cells #[.int .i64 0, .int .i64 0, .int .i64 0, .int .i64 0] 103)).alloc (.cells #[.int .i64 ps[0].t, .int .i64 ps[0].p, .int .i64 ps[0].s, .int .i64 ps[0].b] 103) := ⟨_, rfl⟩
  rw [← hW] at o4b o5 hb5 ⊢
  clear hW o4
  go_loopw [6] (fun i wr => ∃ k : Nat, ∃ m : Hi, 1 ≤ k ∧ k ≤ ps.length ∧ i = .int .i64 k ∧ Hid (m ∈ ps ∧ ∀ y ∈ ps.take k, 0 ≤ hoV y m) ∧ wr.ownsRow w.heap.size 103 4 (.slice (some ⟨w.heap.size, 0, none⟩) 1 1) 1 (Hi.cells ⟨0, 0, 0, 0⟩) ∧ wr.ownsRow w.heap.size 103 4 (.slice (some ⟨w.heap.size + 1, 0, none⟩) 1 1) 1 (Hi.cells m) ∧ Below w.heap.size w wr) (fun i _ => ps.length - (intOf i).toNat)
  case atStart =>
    refine ⟨1, ps[0], by omega, h1, rfl, Lib.hid ⟨List.getElem_mem _, ?_⟩, o4b, o5, hb5⟩
    intro y hy
    rw [List.take_one, List.head?_eq_getElem?, List.getElem?_eq_getElem (by omega)] at hy
    have : y = ps[0] := by simpa using hy
    rw [this]; have := hoV_self ps[0]; omega
  case round =>
    clear o4b o5 hb5 hat hat0
    obtain ⟨k, m, hk1, hk, rfl, hm, o4, o5, hb⟩ := hrel
    have hzb := hb.size
    by_cases hlt : k < ps.length
    · obtain ⟨b', off', hbo, hbB', hat⟩ := his_get h hlt
      cases hbo
      unfold HiAt at hat
      have hbr : b < wr.heap.size := by omega
      have r0 : wr.cell? ⟨b, off + k * 4, none⟩ = some (.int .i64 ps[k].t) := by rw [hb.cell (p := ⟨_, _, none⟩) hbw]; exact hat.1
      have r1 : wr.cell? ⟨b, off + k * 4 + 1, none⟩ = some (.int .i64 ps[k].p) := by rw [hb.cell (p := ⟨_, _, none⟩) hbw]; exact hat.2.1
      have r2 : wr.cell? ⟨b, off + k * 4 + 2, none⟩ = some (.int .i64 ps[k].s) := by rw [hb.cell (p := ⟨_, _, none⟩) hbw]; exact hat.2.2.1
      have r3 : wr.cell? ⟨b, off + k * 4 + 3, none⟩ = some (.int .i64 ps[k].b) := by rw [hb.cell (p := ⟨_, _, none⟩) hbw]; exact hat.2.2.2
      obtain ⟨q0, q1, q2, q3⟩ := own_hiAt o5
      have hg5 := (o5.lt _ rfl).2
      have hHO : ∀ u : Ext wr, Calls Try.prog 54 #[ps[k].val, m.val] u.w fun e w' => e = .returned (.int .i64 (hoV ps[k] m)) ∧ Below u.w.heap.size u.w w' := fun u => HO.out _ _ _
      have HHO := Lib.hid hHO
      have HT : Hid (∀ m' : Hi, m' ∈ ps → ¬ hoV m m' < 0 → ¬ hoV ps[k] m' < 0 → m' ∈ ps ∧ ∀ y ∈ ps.take (k + 1), 0 ≤ hoV y m') := Lib.hid (by
        intro m' h1 h2 h3
        refine ⟨h1, fun y hy => ?_⟩
        rw [List.take_succ_eq_append_getElem hlt, List.mem_append] at hy
        rcases hy with hy | hy
        · have := hoV_trans (x := y) (by have := hm.out.2 y hy; omega) h2; omega
        · rw [List.mem_singleton] at hy; rw [hy]; omega)
      have hmem : ps[k] ∈ ps := List.getElem_mem _
      rcases dec_cases (hoV ps[k] m < 0) with ⟨g1, g1'⟩ | ⟨g1, g1'⟩
      · have HN := Lib.hid (HT.out ps[k] hmem (hoV_asym g1') (hoV_self _))
        generalize hoV ps[k] m = hv at HHO g1
        clear hat hHO HT hmem g1'
        generalize ps[k] = pk at *
        have O4 := Lib.hid o4
        have O5 := Lib.hid o5
        clear o4 o5
        go_wp2
        (refine wp_region_ext (by kernel_rfl) (by kernel_rfl) ?_; have hX := @ext_cell; (repeat (go_big_quiet_step ((go_at_call 54; exact ext_call (HHO.out _))))); refine wpQuiet_nil ?_; clear hX; intro wx hw'; obtain ⟨⟨wx, hbx⟩, rfl⟩ := hw'; obtain ⟨hcx, hfx⟩ := bcell hbx)
        have hbx2 := bl_trans hb hbx
        have o4x := own_below O4.out hbx (Nat.le_refl _)
        have o5x := own_below O5.out hbx (Nat.le_refl _)
        have s0 : wx.cell? ⟨b, off + k * 4, none⟩ = some (.int .i64 pk.t) := by rw [hbx.cell (p := ⟨_, _, none⟩) hbr]; exact r0
        have s1 : wx.cell? ⟨b, off + k * 4 + 1, none⟩ = some (.int .i64 pk.p) := by rw [hbx.cell (p := ⟨_, _, none⟩) hbr]; exact r1
        have s2 : wx.cell? ⟨b, off + k * 4 + 2, none⟩ = some (.int .i64 pk.s) := by rw [hbx.cell (p := ⟨_, _, none⟩) hbr]; exact r2
        have s3 : wx.cell? ⟨b, off + k * 4 + 3, none⟩ = some (.int .i64 pk.b) := by rw [hbx.cell (p := ⟨_, _, none⟩) hbr]; exact r3
        clear r0 r1 r2 r3 q0 q1 q2 q3 hcx hfx
        obtain ⟨⟨v0, c0⟩, f0⟩ := own_cell o5x (j := 0) (by omega)
        obtain ⟨⟨v1, c1⟩, f1⟩ := own_cell o5x (j := 1) (by omega)
        obtain ⟨⟨v2, c2⟩, f2⟩ := own_cell o5x (j := 2) (by omega)
        obtain ⟨⟨v3, c3⟩, f3⟩ := own_cell o5x (j := 3) (by omega)
        have hzx := hbx2.size
        have hbxr : b < wx.heap.size := by omega
        have hne : b ≠ w.heap.size + 1 := by omega
        have H4 := Lib.hid o4x
        have H5 := Lib.hid o5x
        clear o4x o5x
        go_wp2
        have hs := own_setCells (Hi.cells pk) (A := []) (R := Hi.cells m) (j := 0) H5.out rfl (Nat.le_refl _)
        have h4s := own_far H4.out (grown_setCells (w.heap.size + 1) (Hi.cells pk) wx 0) (by omega)
        have hbs : Below w.heap.size w (setCells wx (w.heap.size + 1) 0 (Hi.cells pk)) := bl_grown hbx2 (grown_setCells _ _ _ _) (fun q hq => by cases hq; omega)
        clear c0 c1 c2 c3 f0 f1 f2 f3 s0 s1 s2 s3
        go_roundw
        case rel => exact ⟨k + 1, pk, by omega, by omega, by go_num, HN, h4s, hs, hbs⟩
        case measure => simp [intOf]; omega
      · have HN := Lib.hid (HT.out m hm.out.1 (hoV_self _) g1')
        generalize hoV ps[k] m = hv at HHO g1
        clear hat hHO HT hmem g1'
        generalize ps[k] = pk at *
        have O4 := Lib.hid o4
        have O5 := Lib.hid o5
        clear o4 o5
        go_wp2
        (refine wp_region_ext (by kernel_rfl) (by kernel_rfl) ?_; have hX := @ext_cell; (repeat (go_big_quiet_step ((go_at_call 54; exact ext_call (HHO.out _))))); refine wpQuiet_nil ?_; clear hX; intro wx hw'; obtain ⟨⟨wx, hbx⟩, rfl⟩ := hw'; obtain ⟨hcx, hfx⟩ := bcell hbx)
        have hbx2 := bl_trans hb hbx
        have o4x := Lib.hid (own_below O4.out hbx (Nat.le_refl _))
        have o5x := Lib.hid (own_below O5.out hbx (Nat.le_refl _))
        go_wp2
        go_roundw
        case rel => exact ⟨k + 1, m, by omega, by omega, by go_num, HN, o4x.out, o5x.out, hbx2⟩
        case measure => simp [intOf]; omega
    · have hkn : k = ps.length := by omega
      subst hkn
      have hM := hm.out
      rw [List.take_length] at hM
      have HM := Lib.hid hM
      clear hM hm
      obtain ⟨q0, q1, q2, q3⟩ := own_hiAt o5
      obtain ⟨⟨v0, c0⟩, f0⟩ := own_cell o4 (j := 0) (by omega)
      obtain ⟨⟨v1, c1⟩, f1⟩ := own_cell o4 (j := 1) (by omega)
      obtain ⟨⟨v2, c2⟩, f2⟩ := own_cell o4 (j := 2) (by omega)
      obtain ⟨⟨v3, c3⟩, f3⟩ := own_cell o4 (j := 3) (by omega)
      have hg5 := (o5.lt _ rfl).2
      have H4 := Lib.hid o4
      clear o4 o5
      go_wp2
      have hs := own_setCells (Hi.cells m) (A := []) (R := Hi.cells ⟨0, 0, 0, 0⟩) (j := 0) H4.out rfl (Nat.le_refl _)
      obtain ⟨cur, hh, hcur⟩ := own_one2 hs
      have hbs : Below w.heap.size w (setCells wr w.heap.size 0 (Hi.cells m)) := bl_grown hb (grown_setCells _ _ _ _) (fun q hq => by cases hq; omega)
      refine bodyPost_ret (v := .agg cur) (results_cell_row Try.results53 _ _ w.heap.size 103 cur (0, 0) _ rfl hh Try.underlying103 rfl (by rw [hcur]; kernel_rfl)) rfl ⟨m, ?_, HM.out.1, HM.out.2, hbs⟩
      rw [hcur]; rfl
end Go.Proofs.Ytmeefmoblkiebaa
/- Contracts: the fall that follows (the program). -/
namespace Go.Proofs.Ytmeefmoblkiebaa
open Go.RowKit
set_option linter.unusedVariables false
set_option linter.unusedSimpArgs false
set_option maxHeartbeats 400000
set_option maxRecDepth 100000
theorem stay_any (w : World) : Calls Try.prog 52 #[] w fun e w' => e = .returned (.agg #[.int .i64 (-1), .int .i8 0, .int .i64 (-1)]) ∧ Below w.heap.size w w' := by
  go_enter Try.func52, Try.ntmps52
  go_wp2
  first
    | (go_ret; exact ⟨rfl, (by repeat (first | with_reducible exact Below.refl _ _ | with_reducible assumption | with_reducible apply bl_drewN | with_reducible apply bl_drew | with_reducible apply bl_alloc | (with_reducible refine bl_set ?_ (by first | (simp; done) | (simp; omega)) _) | with_reducible refine bl_trans ?_ (by with_reducible assumption)))⟩)
    | (exact bodyPost_ret (v := .agg #[.int .i64 (-1), .int .i8 0, .int .i64 (-1)]) (by simp [results, Try.results52, go_sem]) rfl ⟨rfl, (by repeat (first | with_reducible exact Below.refl _ _ | with_reducible assumption | with_reducible apply bl_drewN | with_reducible apply bl_drew | with_reducible apply bl_alloc | (with_reducible refine bl_set ?_ (by first | (simp; done) | (simp; omega)) _) | with_reducible refine bl_trans ?_ (by with_reducible assumption)))⟩)
theorem stAt_pc {w : World} {g : Nat} {l : Bd} (h : StAt w g l) {i : Nat} (hi : i < l.ps.length) : ∃ b o c, w.cell? ⟨g, 0, none⟩ = some (.slice (some ⟨b, o, none⟩) l.ps.length c) ∧ b < w.heap.size ∧ PcAt w b (o + i * 5) l.ps[i] := by
  obtain ⟨h1, v0, v1, v2, v3, ⟨c0, c1, c2, c3⟩, ⟨a, cap, rfl, p0⟩, p1, p2, p3⟩ := h
  obtain ⟨b, o, rfl, hb, hat⟩ := pcs_get p0 hi
  exact ⟨b, o, cap, c0, hb, hat⟩
theorem stAt_can {w : World} {g : Nat} {l : Bd} (h : StAt w g l) {i : Nat} (hi : i < l.ps.length) : ∃ b o c, w.cell? ⟨g, 1, none⟩ = some (.slice (some ⟨b, o, none⟩) l.ps.length c) ∧ b < w.heap.size ∧ w.cell? ⟨b, o + i, none⟩ = some (.int .u8 (canV l.ps[i])) := by
  obtain ⟨h1, v0, v1, v2, v3, ⟨c0, c1, c2, c3⟩, p0, ⟨a, cap, rfl, p1⟩, p2, p3⟩ := h
  obtain ⟨b, o, rfl, hb, hat⟩ := SlAt.get canC_len (by omega) p1 hi
  refine ⟨b, o, cap, c1, hb, ?_⟩
  have := hat 0 _ rfl
  rwa [Nat.mul_one, Nat.add_zero] at this
theorem stAt_hit {w : World} {g : Nat} {l : Bd} (h : StAt w g l) {i : Nat} (hi : i < l.ps.length) : ∃ b o c, w.cell? ⟨g, 2, none⟩ = some (.slice (some ⟨b, o, none⟩) l.ps.length c) ∧ b < w.heap.size ∧ ∀ s : Nat, s < 4 → w.cell? ⟨b, o + i * 4 + s, none⟩ = some (.int .u8 (hv0 l.ps[i] s)) := by
  obtain ⟨h1, v0, v1, v2, v3, ⟨c0, c1, c2, c3⟩, p0, p1, ⟨a, cap, rfl, p2⟩, p3⟩ := h
  obtain ⟨b, o, rfl, hb, hat⟩ := SlAt.get hitC_len (by omega) p2 hi
  refine ⟨b, o, cap, c2, hb, fun s hs => hat s _ ?_⟩
  have : s = 0 ∨ s = 1 ∨ s = 2 ∨ s = 3 := by omega
  rcases this with rfl | rfl | rfl | rfl <;> rfl
theorem stAt_bes {w : World} {g : Nat} {l : Bd} (h : StAt w g l) {i : Nat} (hi : i < l.ps.length) : ∃ b o c, w.cell? ⟨g, 3, none⟩ = some (.slice (some ⟨b, o, none⟩) l.ps.length c) ∧ b < w.heap.size ∧ ∀ s : Nat, s < 4 → w.cell? ⟨b, o + i * 4 + s, none⟩ = some (.int .i64 (besV l.ps l.ps[i] s)) := by
  obtain ⟨h1, v0, v1, v2, v3, ⟨c0, c1, c2, c3⟩, p0, p1, p2, ⟨a, cap, rfl, p3⟩⟩ := h
  obtain ⟨b, o, rfl, hb, hat⟩ := SlAt.get (besC_len l.ps) (by omega) p3 hi
  refine ⟨b, o, cap, c3, hb, fun s hs => hat s _ ?_⟩
  have : s = 0 ∨ s = 1 ∨ s = 2 ∨ s = 3 := by omega
  rcases this with rfl | rfl | rfl | rfl <;> rfl
theorem follows1_any (g : Nat) (l : Bd) (i : Nat) (hi : i < l.ps.length) (bs bi : Nat) (p : Hi) (hp : p.ok) (w : World) (hst : StAt w g l) (hbs : bs < w.heap.size) (hbi : bi < w.heap.size) (hcs : w.cell? ⟨bs, 0, none⟩ = some (.pointer (some ⟨g, 0, none⟩))) (hci : w.cell? ⟨bi, 0, none⟩ = some (.int .i64 i)) (hn : l.ps.length ≤ 10000) :
    Calls Try.prog 51 #[p.val, .pointer (some ⟨bs, 0, none⟩), .pointer (some ⟨bi, 0, none⟩)] w fun e w' => e = .returned (.bool (!canH l.ps i (p.t, p.s, p.b))) ∧ Below w.heap.size w w' := by
  obtain ⟨-, -, ⟨hs1, hs2⟩, -⟩ := hp
  have hgl := hst.1
  obtain ⟨b, o, c, x1, x2, x3⟩ := stAt_can hst hi
  have hbd := canV_bd l.ps[i]
  have HV := Lib.hid (show canH l.ps i (p.t, p.s, p.b) = decide (canV l.ps[i] / 2 ^ p.s.toNat % 2 = 1) by
    rw [canV_has l.ps[i] p.s hs1 hs2]; unfold canH; rw [getD_pc l.ps i hi])
  generalize canH l.ps i (p.t, p.s, p.b) = r at HV ⊢
  generalize canV l.ps[i] = cv at x3 hbd HV
  obtain ⟨n1, n2⟩ := hbd
  have n3 : bs ≠ w.heap.size := by omega
  have n4 : bi ≠ w.heap.size := by omega
  have n5 : g ≠ w.heap.size := by omega
  have n6 : b ≠ w.heap.size := by omega
  have HH := Lib.hid (fun w' => hasSide_any cv p.s w' hs1 hs2 n1 n2)
  have hil : (i : Int) < l.ps.length := by omega
  go_enter Try.func51, Try.ntmps51
  go_wp2
  (refine wp_region_ext (by kernel_rfl) (by kernel_rfl) ?_; have hX := @ext_cell; (repeat (go_big_quiet_step ((go_at_call 48; exact ext_same (HH.out _))))); refine wpQuiet_nil ?_; clear hX; intro wx hw'; obtain ⟨⟨wx, hbx⟩, rfl⟩ := hw'; obtain ⟨hcx, hfx⟩ := bcell hbx)
  go_wp2
  go_ret
  exact ⟨by rw [HV.out]; rfl, (by repeat (first | with_reducible exact Below.refl _ _ | with_reducible assumption | with_reducible apply bl_drewN | with_reducible apply bl_drew | with_reducible apply bl_alloc | (with_reducible refine bl_set ?_ (by first | (simp; done) | (simp; omega)) _) | with_reducible refine bl_trans ?_ (by with_reducible assumption)))⟩
theorem eg_follows1 (args : Array Value) (w : World) : (callFunc 51 args).run Try.prog w = .ok (.enter 51 args) w := by kernel_rfl
end Go.Proofs.Ytmeefmoblkiebaa
/- Contracts: the fall that follows (the program), 2. -/
namespace Go.Proofs.Ytmeefmoblkiebaa
open Go.RowKit
set_option linter.unusedVariables false
set_option linter.unusedSimpArgs false
set_option maxHeartbeats 400000
set_option maxRecDepth 100000
theorem sl_newB (w : World) (cs : Array Value) (T : TypeId) (g : Nat) (hg : g = w.heap.size) : SlAt (g + 1) (w.alloc (.cells cs T)) (some ⟨g, 0, none⟩) cs.toList := by
  subst hg
  exact sl_new w cs T
def mkH (i : Nat) (x : Ht) : Hi := ⟨x.1, i, x.2.1, x.2.2⟩
theorem mkH_ok (i : Nat) (hi : i ≤ 1000) (x : Ht) (h1 : 0 ≤ x.1 ∧ x.1 ≤ 2000000) (h2 : 0 ≤ x.2.1 ∧ x.2.1 ≤ 3) (h3 : -1 ≤ x.2.2 ∧ x.2.2 ≤ 1000) : (mkH i x).ok := by
  unfold Hi.ok mkH; simp only; omega
/-- What is asked of hits on the piece i. -/
def ht3 (x : Ht) : Prop := (0 ≤ x.1 ∧ x.1 ≤ 2000000) ∧ (0 ≤ x.2.1 ∧ x.2.1 ≤ 3) ∧ (-1 ≤ x.2.2 ∧ x.2.2 ≤ 1000)
theorem hoV_mk (i : Nat) (x y : Ht) : hoV (mkH i x) (mkH i y) < 0 ↔ ltH x y = true := by
  rw [hoV_lt, ltH_iff]; simp only [mkH, Int.lt_irrefl, false_or, true_and]
theorem due_min (ps : List Pc) (pl : List Pu) (fs : List Fa) (i : Nat) (m : Hi) (h1 : m ∈ (dueC ps pl fs i).map (mkH i)) (h2 : ∀ y ∈ (dueC ps pl fs i).map (mkH i), 0 ≤ hoV y m) : due ps pl fs i = ⟨m.t, m.s, m.b⟩ := by
  rw [List.mem_map] at h1
  obtain ⟨x, hx, rfl⟩ := h1
  have hL : Least (fun z => z ∈ dueC ps pl fs i) (some x) := ⟨hx, fun y hy => by
    have := h2 (mkH i y) (List.mem_map.2 ⟨y, hy, rfl⟩)
    rw [Bool.eq_false_iff]
    intro h
    rw [← hoV_mk i] at h
    omega⟩
  unfold due
  rw [least_one (least_best _) hL]
  rfl
theorem filter_mk (i : Nat) (q : Ht → Bool) (xs : List Ht) : (xs.map (mkH i)).filter (fun p => !(!q (p.t, p.s, p.b))) = (xs.filter q).map (mkH i) := by
  rw [List.filter_map]
  congr 1
  apply List.filter_congr
  intro x _
  simp [mkH]
theorem candP_ht3 (ps : List Pc) (pl : List Pu) (i : Nat) (h : pl.all plainPu = true) : ∀ x ∈ candP ps pl i, ht3 x := by
  intro x hx
  unfold candP at hx
  rw [List.mem_filterMap] at hx
  obtain ⟨p, hp, hx⟩ := hx
  rw [List.all_eq_true] at h
  have h1 := h p hp
  unfold plainPu inB at h1
  simp only [Bool.and_eq_true, decide_eq_true_eq] at h1
  split at hx
  · simp only [Option.some.injEq] at hx
    rw [← hx]; unfold ht3; simp only; omega
  · cases hx
theorem candP_len (ps : List Pc) (pl : List Pu) (i : Nat) : (candP ps pl i).length ≤ pl.length := by
  unfold candP; exact List.length_filterMap_le _ _
theorem candN1_far (ps : List Pc) (fs : List Fa) (i : Nat) (s : Int) (k : Nat) (hi : i < ps.length) (hf : fs.length ≤ k) (he : fnd (nxt ps[i].at_ s) ps = k) : candN1 ps fs i s = none := by
  unfold candN1
  simp only
  rw [getD_pc ps i hi, he, if_neg (fun hh => by omega)]
theorem wrap8_side (n : Int) (h0 : 0 ≤ n) (h3 : n ≤ 3) : IntKind.i8.wrap n = n := by
  have : n = 0 ∨ n = 1 ∨ n = 2 ∨ n = 3 := by omega
  rcases this with rfl | rfl | rfl | rfl <;> rfl
theorem candN_ht3 (l : Bd) (hv : vBd l = true) (fs : List Fa) (hfs : fs.all okFall = true) (i m : Nat) (hm : m ≤ 4) : ∀ x ∈ candN l.ps fs i m, ht3 x := by
  intro x hx
  unfold candN at hx
  rw [List.mem_filterMap] at hx
  obtain ⟨s, hs, hx⟩ := hx
  rw [List.mem_range] at hs
  unfold candN1 at hx
  simp only at hx
  split at hx
  · rename_i h9
    obtain ⟨h1, h2, h3, -⟩ := h9
    have hk := fnd_lt _ _ h1
    have hkf : (fnd (nxt (l.ps.getD i default).at_ (s : Int)) l.ps).toNat < fs.length := by omega
    obtain ⟨-, -, -, -, n5, n6⟩ := vBd_piece2 l hv _ hk
    obtain ⟨-, -, -, -, c5⟩ := vBd_bounds l hv
    rw [getD_fa fs _ hkf] at hx h3
    rw [getD_pc l.ps _ hk] at hx
    rw [List.all_eq_true] at hfs
    have h4 := hfs _ (List.getElem_mem hkf)
    unfold okFall inB at h4
    simp only [Bool.and_eq_true, decide_eq_true_eq] at h4
    simp only [Option.some.injEq] at hx
    rw [← hx]
    unfold ht3
    simp only
    omega
  · cases hx
theorem run_idx4 (bv : Nat → Int) (m : Nat) (hm : m < 4) : ∀ w' : World, (Instr.index 96 (.agg #[.int .i64 (bv 0), .int .i64 (bv 1), .int .i64 (bv 2), .int .i64 (bv 3)]) (.int .i64 (m : Int))).run Try.prog w' = .ok (.int .i64 (bv m)) w' := by
  have h9 : m = 0 ∨ m = 1 ∨ m = 2 ∨ m = 3 := by omega
  rcases h9 with rfl | rfl | rfl | rfl
  · exact fun w' => by kernel_rfl
  · exact fun w' => by kernel_rfl
  · exact fun w' => by kernel_rfl
  · exact fun w' => by kernel_rfl
set_option maxHeartbeats 3200000 in
theorem follows_any {B : Nat} (g : Nat) (l : Bd) (i : Nat) (a2 : Option Addr) (cap2 : Nat) (fs : List Fa) (a3 : Option Addr) (cap3 : Nat) (pl : List Pu) (w : World) (hst : StAt w g l) (hv : vBd l = true) (hi : i < l.ps.length) (h2 : SlAt B w a2 (flat Fa.cells fs)) (hfs : fs.all okFall = true) (hn2 : fs.length ≤ 9000000)
    (h3 : SlAt B w a3 (flat Hi.cells (pl.map (hitOf l)))) (hpl : pl.all plainPu = true) (hn : pl.length ≤ 20) (hB : B ≤ w.heap.size) :
    Calls Try.prog 25 #[.pointer (some ⟨g, 0, none⟩), .int .i64 i, .slice a2 fs.length cap2, .slice a3 pl.length cap3] w fun e w' => e = .returned (due l.ps pl fs i).val ∧ Below w.heap.size w w' := by
  have hgl := hst.1
  obtain ⟨-, -, -, -, c5⟩ := vBd_bounds l hv
  have hnd : (l.ps.map Pc.at_).Nodup := by
    unfold vBd at hv
    simp only [Bool.and_eq_true, decide_eq_true_eq] at hv
    exact hv.2
  have HST := Lib.hid hst
  have HPL := Lib.hid hpl
  have HFI := Lib.hid (fun c => fnd_iff l.ps hnd c i)
  have HP3 := Lib.hid (candP_ht3 l.ps pl i hpl)
  clear hst hpl hnd
  obtain ⟨i0, hi0, hiz0, hiz1, hiz2⟩ := info_parts Try.infoHit
  have hgi := getD_pc l.ps i hi
  go_enter Try.func25, Try.ntmps25
  go_upto_region 2 with fail
  have h6 := heap_alloc_new w (.cells #[.pointer (some ⟨g, 0, none⟩)] 54)
  have h6a := Below.heap_alloc (w.alloc (.cells #[.pointer (some ⟨g, 0, none⟩)] 54)) (.cells #[.int .i64 i] 3) w.heap.size (by simp)
  rw [h6] at h6a
  have h6b := Below.heap_alloc ((w.alloc (.cells #[.pointer (some ⟨g, 0, none⟩)] 54)).alloc (.cells #[.int .i64 i] 3)) (.cells #[.int .i64 0, .int .i8 0, .int .i64 0] 40) w.heap.size (by simp; omega)
  rw [h6a] at h6b
  have h7 := heap_alloc_new (w.alloc (.cells #[.pointer (some ⟨g, 0, none⟩)] 54)) (.cells #[.int .i64 i] 3)
  have h7a := Below.heap_alloc ((w.alloc (.cells #[.pointer (some ⟨g, 0, none⟩)] 54)).alloc (.cells #[.int .i64 i] 3)) (.cells #[.int .i64 0, .int .i8 0, .int .i64 0] 40) (w.heap.size + 1) (by simp)
  simp only [World.size_alloc] at h7
  rw [h7] at h7a
  have o8 := own_newAt ((w.alloc (.cells #[.pointer (some ⟨g, 0, none⟩)] 54)).alloc (.cells #[.int .i64 i] 3)) #[.int .i64 0, .int .i8 0, .int .i64 0] 40 3 (w.heap.size + 2) (w.heap.size + 2) (by simp) (by omega) rfl _ rfl
  have hb3 : Below w.heap.size w (((w.alloc (.cells #[.pointer (some ⟨g, 0, none⟩)] 54)).alloc (.cells #[.int .i64 i] 3)).alloc (.cells #[.int .i64 0, .int .i8 0, .int .i64 0] 40)) := (by repeat (first | with_reducible exact Below.refl _ _ | with_reducible assumption | with_reducible apply bl_drewN | with_reducible apply bl_drew | with_reducible apply bl_alloc | (with_reducible refine bl_set ?_ (by first | (simp; done) | (simp; omega)) _) | with_reducible refine bl_trans ?_ (by with_reducible assumption)))
  have hz3 : (((w.alloc (.cells #[.pointer (some ⟨g, 0, none⟩)] 54)).alloc (.cells #[.int .i64 i] 3)).alloc (.cells #[.int .i64 0, .int .i8 0, .int .i64 0] 40)).heap.size = w.heap.size + 3 := by simp
  obtain ⟨X, hX⟩ : ∃ X, X = ((w.alloc (.cells #[.pointer (some ⟨g, 0, none⟩)] 54)).alloc (.cells #[.int .i64 i] 3)).alloc (.cells #[.int .i64 0, .int .i8 0, .int .i64 0] 40) := ⟨_, rfl⟩
  rw [← hX] at h6b h7a o8 hb3 hz3 ⊢
  clear h6 h6a h7 hX
  have x4 : X.cell? ⟨w.heap.size, 0, none⟩ = some (.pointer (some ⟨g, 0, none⟩)) := by rw [cell_of_row _ _ _ _ _ _ h6b]; rfl
  have x5 : X.cell? ⟨w.heap.size + 1, 0, none⟩ = some (.int .i64 i) := by rw [cell_of_row _ _ _ _ _ _ h7a]; rfl
  clear h6b h7a
  have HB3 := Lib.hid hb3
  have O8 := Lib.hid o8
  clear o8 hb3
  have hown0 := World.ownsRow_made (e := 103) (size := 4) X #[] 0 (Nat.le_refl _) (by simp [maxLen]) rfl
  have hbX : Below X.heap.size X (X.alloc (.cells #[] 103)) := bl_alloc (Below.refl _ _)
  rw [hz3] at hown0 hbX
  obtain ⟨bi, hbi⟩ : ∃ bi, bi = w.heap.size + 1 := ⟨_, rfl⟩
  obtain ⟨br, hbr⟩ : ∃ br, br = w.heap.size + 2 := ⟨_, rfl⟩
  obtain ⟨bs, hbs⟩ : ∃ bs, bs = w.heap.size := ⟨_, rfl⟩
  obtain ⟨bl, hbl⟩ : ∃ bl, bl = w.heap.size + 3 := ⟨_, rfl⟩
  have hws1 : w.heap.size ≤ bs := by omega
  have hws2 : bs ≤ w.heap.size := by omega
  rw [← hbl] at hown0 hbX hz3
  rw [← hbr] at O8
  rw [← hbi] at x5
  rw [← hbs] at x4
  have g0 : g < bs := by omega
  have hBs : B ≤ bs := by omega
  have hl5 : bs < bi := by omega
  have hl6 : bi < br := by omega
  have hl7 : br < bl := by omega
  rw [← hbi, show bi + 1 = br by omega, show br + 1 = bl by omega, ← hbs]
  have hzl : X.heap.size ≤ bl := by omega
  have hzm : bl ≤ X.heap.size := by omega
  clear hbi hbr hbs hbl hz3
  go_wp2
  go_loopw [9, 18] (fun v ix wr => ∃ k n : Nat, k ≤ pl.length ∧ n ≤ k ∧ ix = .int .i64 k ∧ wr.ownsRow bl 103 4 v n (flat Hi.cells ((candP l.ps (pl.take k) i).map (mkH i))) ∧ Below bl X wr) (fun _ ix _ => pl.length - (intOf ix).toNat)
  case atStart => exact ⟨0, 0, by omega, by omega, rfl, hown0, hbX⟩
  case round =>
    clear hown0 hbX
    obtain ⟨k, n, hk, hnk, rfl, hown, hb⟩ := hrel
    have hzb := Nat.le_trans hzm hb.size
    by_cases hlt : k < pl.length
    · have hlt3 : k < (pl.map (hitOf l)).length := by simpa using hlt
      obtain ⟨b, off, rfl, hbl2, hat⟩ := his_get h3 hlt3
      have hwX : Below w.heap.size w wr := HB3.out.trans (hb.mono (by omega))
      have hbw : b < w.heap.size := by omega
      have hbr : b < wr.heap.size := by have := hwX.size; omega
      rw [List.getElem_map] at hat
      have htk : pl.take (k + 1) = pl.take k ++ [pl[k]] := List.take_succ_eq_append_getElem hlt
      have HCS := Lib.hid (show candP l.ps (pl.take (k + 1)) i = _ from by rw [htk, candP_snoc])
      have hfi := HFI.out ⟨pl[k].x, pl[k].y⟩
      rw [hgi] at HCS
      obtain ⟨H, hH⟩ : ∃ H, H = hitOf l pl[k] := ⟨_, rfl⟩
      have hHt : H.t = pl[k].t ∧ H.p = fnd ⟨pl[k].x, pl[k].y⟩ l.ps ∧ H.s = pl[k].s ∧ H.b = -1 := by rw [hH]; exact ⟨rfl, rfl, rfl, rfl⟩
      rw [← hH] at hat
      clear hH
      unfold HiAt at hat
      have r0 : wr.cell? ⟨b, off + k * 4, none⟩ = some (.int .i64 H.t) := by rw [hwX.cell (p := ⟨_, _, none⟩) hbw]; exact hat.1
      have r1 : wr.cell? ⟨b, off + k * 4 + 1, none⟩ = some (.int .i64 H.p) := by rw [hwX.cell (p := ⟨_, _, none⟩) hbw]; exact hat.2.1
      have r2 : wr.cell? ⟨b, off + k * 4 + 2, none⟩ = some (.int .i64 H.s) := by rw [hwX.cell (p := ⟨_, _, none⟩) hbw]; exact hat.2.2.1
      have r3 : wr.cell? ⟨b, off + k * 4 + 3, none⟩ = some (.int .i64 H.b) := by rw [hwX.cell (p := ⟨_, _, none⟩) hbw]; exact hat.2.2.2
      have y5 : wr.cell? ⟨bi, 0, none⟩ = some (.int .i64 i) := by rw [hb.cell (p := ⟨_, _, none⟩) (show bi < bl by omega)]; exact x5
      have hlt5 : bi < wr.heap.size := by omega
      have y5a : (wr.alloc (.cells #[.int .i64 H.t, .int .i64 H.p, .int .i64 H.s, .int .i64 H.b] 103)).cell? ⟨bi, 0, none⟩ = some (.int .i64 i) := by rw [cell_alloc _ _ _ _ hlt5]; exact y5
      clear hat
      rcases dec_cases (H.p = (i : Int)) with ⟨g1, g1'⟩ | ⟨g1, g1'⟩
      · have hce : (⟨pl[k].x, pl[k].y⟩ : Ce) = l.ps[i].at_ := by
          obtain ⟨_, h9⟩ := hfi.1 (by rw [← hHt.2.1]; exact g1')
          exact h9.symm
        rw [if_pos hce] at HCS
        have HH : Hid (H = mkH i (pl[k].t, pl[k].s, -1)) := Lib.hid (by
          obtain ⟨e1, e2, e3, e4⟩ := hHt
          cases H
          simp only at e1 e2 e3 e4 g1'
          unfold mkH
          rw [e1, g1', e3, e4])
        have g1b : (H.p == (i : Int)) = true := by simpa using g1'
        clear hce hfi hHt g1' g1
        obtain ⟨av, capv, hve, -, -, -⟩ := own_at hown
        subst hve
        have HOWN := Lib.hid hown
        clear hown
        go_wp2_with (at_builtin; refine wpList_append_sl _ rfl _ _ 56 rfl bl 103 i0 (.agg #[.int .i64 0, .int .i64 0, .int .i64 0, .int .i64 0]) 4 32 Try.underlying56 hi0 hiz0 hiz1 hiz2 rfl (by decide) _ _ _ rfl (own_below HOWN.out (bl_alloc (bl_alloc (Below.refl _ _))) (Nat.le_refl _)) (some ⟨_, 0, none⟩) 1 1 (Hi.cells H) rfl (sl_newB _ #[.int .i64 H.t, .int .i64 H.p, .int .i64 H.s, .int .i64 H.b] _ _ (by simp)) rfl (Hi.one H) (by unfold maxLen; omega) (by omega) (by simp; omega) ?_; intro v3 w3 hown3 hgrow)
        have hb3' : Below bl X w3 := by
          have h9 : Below bl X ((wr.alloc (.cells #[.int .i64 H.t, .int .i64 H.p, .int .i64 H.s, .int .i64 H.b] 103)).alloc (.cells #[.int .i64 H.t, .int .i64 H.p, .int .i64 H.s, .int .i64 H.b] 103)) := (hb.alloc hzb _).alloc (by simp; omega) _
          exact h9.grown hgrow (by simp; omega) (fun q hq => (HOWN.out.lt q hq).1)
        go_roundw
        case rel =>
          refine ⟨k + 1, n + 1, by omega, by omega, by go_num, ?_, hb3'⟩
          rw [HCS.out, List.map_append, flat_append]
          rw [HH.out] at hown3
          exact hown3
        case measure => simp [intOf]; omega
      · have hce : ¬ (⟨pl[k].x, pl[k].y⟩ : Ce) = l.ps[i].at_ := by
          intro h9
          exact g1' (by rw [hHt.2.1]; exact hfi.2 ⟨hi, h9.symm⟩)
        rw [if_neg hce, List.append_nil] at HCS
        have g1b : (H.p == (i : Int)) = false := by simpa using g1'
        clear hce hfi hHt g1 g1'
        have HOWN := Lib.hid hown
        clear hown
        go_wp2
        have hb3' := hb.alloc hzb (.cells #[.int .i64 H.t, .int .i64 H.p, .int .i64 H.s, .int .i64 H.b] 103)
        have hown3 := own_below HOWN.out (bl_alloc (o := .cells #[.int .i64 H.t, .int .i64 H.p, .int .i64 H.s, .int .i64 H.b] 103) (Below.refl _ _)) (Nat.le_refl _)
        go_roundw
        case rel => exact ⟨k + 1, n, by omega, by omega, by go_num, by rw [HCS.out]; exact hown3, hb3'⟩
        case measure => simp [intOf]; omega
    · have hkn : k = pl.length := by omega
      subst hkn
      rw [List.take_length] at hown
      have hn20 : n ≤ 20 := by omega
      have hwX : Below w.heap.size w wr := HB3.out.trans (hb.mono (by omega))
      have hst := HST.out.step hwX
      have y4 : wr.cell? ⟨bs, 0, none⟩ = some (.pointer (some ⟨g, 0, none⟩)) := by rw [hb.cell (p := ⟨_, _, none⟩) (show bs < bl by omega)]; exact x4
      have y5 : wr.cell? ⟨bi, 0, none⟩ = some (.int .i64 i) := by rw [hb.cell (p := ⟨_, _, none⟩) (show bi < bl by omega)]; exact x5
      obtain ⟨bb, ob, cb, z1, z2, z3⟩ := stAt_bes hst hi
      obtain ⟨bv, hbv⟩ : ∃ bv : Nat → Int, ∀ s : Nat, besV l.ps l.ps[i] s = bv s := ⟨fun s => besV l.ps l.ps[i] s, fun _ => rfl⟩
      have HBV := Lib.hid hbv
      have q0 := z3 0 (by omega)
      have q1 := z3 1 (by omega)
      have q2 := z3 2 (by omega)
      have q3 := z3 3 (by omega)
      rw [hbv] at q0 q1 q2 q3
      rw [Nat.add_zero] at q0
      clear hbv z3
      have b1 : bs < wr.heap.size := by omega
      have b2 : bi < wr.heap.size := by omega
      have b3 : g < wr.heap.size := by omega
      have hil : (i : Int) < l.ps.length := by omega
      obtain ⟨av, capv, hve, -, -, -⟩ := own_at hown
      subst hve
      have HOWN := Lib.hid hown
      clear hown hst
      obtain ⟨W, hW⟩ : ∃ W, W = wr := ⟨_, rfl⟩
      subst hW
      go_wp2
      (refine wp_region_ext (by kernel_rfl) (by kernel_rfl) ?_; have hX := @ext_cell; (repeat (go_big_quiet_step (fail))); refine wpQuiet_nil ?_; clear hX; intro wx hw'; obtain ⟨⟨wx, hbx⟩, rfl⟩ := hw'; obtain ⟨hcx, hfx⟩ := bcell hbx)
      have hXx : Below bl X wx := hb.trans (hbx.mono hzb)
      have hown1 := own_below HOWN.out hbx (Nat.le_refl _)
      clear hcx hfx q0 q1 q2 q3 y4 y5 z1
      have HNS := Lib.hid (fun m => candN_succ l.ps fs i m)
      go_wp2
      go_loopw [9, 38] (fun v ix wr => ∃ m n : Nat, m ≤ 4 ∧ n ≤ 20 + m ∧ ix = .int .i64 m ∧ wr.ownsRow bl 103 4 v n (flat Hi.cells ((candP l.ps pl i ++ candN l.ps fs i m).map (mkH i))) ∧ Below bl X wr) (fun _ ix _ => 4 - (intOf ix).toNat)
      case atStart => exact ⟨0, n, by omega, by omega, rfl, by rw [show candN l.ps fs i 0 = [] from rfl, List.append_nil]; exact hown1, hXx⟩
      case round =>
        clear hown1 hXx hb hzb hwX b1 b2 b3 hbx HOWN z2 hn20 hk hnk
        obtain ⟨m, n, hm, hnm, rfl, hown, hb⟩ := hrel
        have hzb := Nat.le_trans hzm hb.size
        by_cases hlm : m < 4
        · have hwX : Below w.heap.size w wr := HB3.out.trans (hb.mono (by omega))
          have hst := HST.out.step hwX
          have y4 : wr.cell? ⟨bs, 0, none⟩ = some (.pointer (some ⟨g, 0, none⟩)) := by rw [hb.cell (p := ⟨_, _, none⟩) (show bs < bl by omega)]; exact x4
          have y5 : wr.cell? ⟨bi, 0, none⟩ = some (.int .i64 i) := by rw [hb.cell (p := ⟨_, _, none⟩) (show bi < bl by omega)]; exact x5
          have b1 : bs < wr.heap.size := by omega
          have b2 : bi < wr.heap.size := by omega
          have b3 : g < wr.heap.size := by omega
          have hix := run_idx4 bv m hlm
          have HS := Lib.hid (HNS.out m)
          have hfn : fnd (nxt l.ps[i].at_ m) l.ps = bv m := HBV.out m
          have HNO := Lib.hid (fun he => candN1_no l.ps fs i m hi he)
          have HFAR := Lib.hid (fun k hk he => candN1_far l.ps fs i m k hi hk he)
          have HAT := Lib.hid (fun k hk hf he => candN1_at l.ps fs i m k hi hk hf he)
          have HLT := Lib.hid (fnd_lt (nxt l.ps[i].at_ m) l.ps)
          rw [hfn] at HNO HFAR HAT HLT
          clear hfn
          obtain ⟨av, capv, hve, -, -, -⟩ := own_at hown
          subst hve
          have HOWN := Lib.hid hown
          clear hown
          obtain ⟨kk, hkk⟩ : ∃ kk, kk = bv m := ⟨_, rfl⟩
          rw [← hkk] at hix HNO HFAR HAT HLT
          clear hkk
          have hnone : Hid (candN1 l.ps fs i (m : Int) = none → candP l.ps pl i ++ candN l.ps fs i (m + 1) = candP l.ps pl i ++ candN l.ps fs i m) := Lib.hid (fun h9 => by rw [HS.out, h9]; simp)
          by_cases hk0 : kk < 0
          · have HN := Lib.hid (hnone.out (HNO.out hk0))
            go_wp2
            (refine wp_region_ext (by kernel_rfl) (by kernel_rfl) ?_; have hX := @ext_cell; (repeat (go_big_quiet_step (fail))); refine wpQuiet_nil ?_; clear hX; intro wx hw'; obtain ⟨⟨wx, hbx⟩, rfl⟩ := hw'; obtain ⟨hcx, hfx⟩ := bcell hbx)
            have hXy : Below bl X wx := hb.trans (hbx.mono hzb)
            have hown2 := own_below HOWN.out hbx (Nat.le_refl _)
            go_wp2
            go_roundw
            case rel => exact ⟨m + 1, n, by omega, by omega, by go_num, by rw [HN.out]; exact hown2, hXy⟩
            case measure => simp [intOf]; omega
          · obtain ⟨kn, hkn⟩ : ∃ kn : Nat, kk = (kn : Int) := ⟨kk.toNat, by omega⟩
            subst hkn
            have hknl : kn < l.ps.length := by have := HLT.out (by omega); simpa using this
            have hd0 : decide ((kn : Int) < 0) = false := decide_eq_false (by omega)
            by_cases hkf : fs.length ≤ kn
            · have hd1 : decide (fs.length ≤ kn) = true := decide_eq_true hkf
              have HN := Lib.hid (hnone.out (HFAR.out kn hkf rfl))
              go_wp2
              (refine wp_region_ext (by kernel_rfl) (by kernel_rfl) ?_; have hX := @ext_cell; (repeat (go_big_quiet_step (fail))); refine wpQuiet_nil ?_; clear hX; intro wx hw'; obtain ⟨⟨wx, hbx⟩, rfl⟩ := hw'; obtain ⟨hcx, hfx⟩ := bcell hbx)
              have hXy : Below bl X wx := hb.trans (hbx.mono hzb)
              have hown2 := own_below HOWN.out hbx (Nat.le_refl _)
              go_wp2
              go_roundw
              case rel => exact ⟨m + 1, n, by omega, by omega, by go_num, by rw [HN.out]; exact hown2, hXy⟩
              case measure => simp [intOf]; omega
            · have hknf : kn < fs.length := by omega
              have hd1 : decide (fs.length ≤ kn) = false := decide_eq_false hkf
              have hAT := HAT.out kn hknl hknf rfl
              obtain ⟨bf, offf, hbf0, hbf, hatf⟩ := fas_get h2 hknf
              cases hbf0
              have hokf : okFall fs[kn] = true := by rw [List.all_eq_true] at hfs; exact hfs _ (List.getElem_mem hknf)
              unfold okFall inB at hokf
              simp only [Bool.and_eq_true, decide_eq_true_eq] at hokf
              obtain ⟨⟨f1, f2⟩, f3, f4⟩ := hokf
              obtain ⟨fn, hfn⟩ : ∃ fn : Nat, fs[kn].f = (fn : Int) := ⟨fs[kn].f.toNat, by omega⟩
              have hfn4 : fn < 4 := by omega
              have hbfw : bf < w.heap.size := by omega
              have hbfr : bf < wr.heap.size := by have := hwX.size; omega
              unfold FaAt at hatf
              have r0 : wr.cell? ⟨bf, offf + kn * 3, none⟩ = some (.int .i64 fs[kn].t) := by rw [hwX.cell (p := ⟨_, _, none⟩) hbfw]; exact hatf.1
              have r1 : wr.cell? ⟨bf, offf + kn * 3 + 1, none⟩ = some (.int .i8 (fn : Int)) := by rw [hwX.cell (p := ⟨_, _, none⟩) hbfw, ← hfn]; exact hatf.2.1
              have hkil : (kn : Int) < fs.length := by omega
              have hkpl : (kn : Int) < l.ps.length := by omega
              rw [hfn] at hAT
              obtain ⟨ft, hft⟩ : ∃ ft, ft = fs[kn].t := ⟨_, rfl⟩
              rw [← hft] at r0 hAT f1 f2
              clear hft hfn hatf f3 f4 hkf
              by_cases ht : ft = -1
              · rw [if_neg (fun h9 => h9.1 ht)] at hAT
                have HN := Lib.hid (hnone.out hAT)
                subst ht
                clear hAT
                go_wp2
                (refine wp_region_ext (by kernel_rfl) (by kernel_rfl) ?_; have hX := @ext_cell; (repeat (go_big_quiet_step (fail))); refine wpQuiet_nil ?_; clear hX; intro wx hw'; obtain ⟨⟨wx, hbx⟩, rfl⟩ := hw'; obtain ⟨hcx, hfx⟩ := bcell hbx)
                have hXy : Below bl X wx := hb.trans (hbx.mono hzb)
                have hown2 := own_below HOWN.out hbx (Nat.le_refl _)
                go_wp2
                go_roundw
                case rel => exact ⟨m + 1, n, by omega, by omega, by go_num, by rw [HN.out]; exact hown2, hXy⟩
                case measure => simp [intOf]; omega
              · have htb : (ft == (-1 : Int)) = false := by simpa using ht
                obtain ⟨bh, oh, ch, w1', w2', w3'⟩ := stAt_hit hst hknl
                have u0 := w3' fn hfn4
                have hHV : 0 ≤ hv0 l.ps[kn] fn ∧ hv0 l.ps[kn] fn ≤ 15 := by
                  obtain ⟨n1, n2, n3, n4, n5, n6⟩ := vBd_piece2 l hv kn hknl
                  have := hitsV_le l.ps[kn].k l.ps[kn].t fn n1 n2 n3 n4 (by omega) (by omega)
                  unfold hv0; omega
                have hAT2 : candN1 l.ps fs i (m : Int) = if hv0 l.ps[kn] fn / 2 ^ (((m : Int) + 2) % 4).toNat % 2 = 1 then some (ft + l.ps[kn].d, (m : Int), (kn : Int)) else none := by
                  rw [hAT]
                  unfold hv0
                  by_cases h9 : max (hitsV l.ps[kn].k l.ps[kn].t (fn : Int)) 0 / 2 ^ (((m : Int) + 2) % 4).toNat % 2 = 1
                  · rw [if_pos h9, if_pos ⟨ht, h9⟩]
                  · rw [if_neg h9, if_neg (fun h8 => h9 h8.2)]
                clear hAT w3'
                obtain ⟨hx, hhx⟩ : ∃ hx, hx = hv0 l.ps[kn] fn := ⟨_, rfl⟩
                rw [← hhx] at u0 hHV hAT2
                clear hhx
                obtain ⟨hx0, hx15⟩ := hHV
                have HOP := Lib.hid (fun w' => opposite_any (m : Int) w' (by omega) (by omega))
                have HHA := Lib.hid (fun w' => hasSide_any hx (((m : Int) + 2) % 4) w' (by omega) (by omega) hx0 hx15)
                rcases dec_cases (hx / 2 ^ (((m : Int) + 2) % 4).toNat % 2 = 1) with ⟨g1, g1'⟩ | ⟨g1, g1'⟩
                · rw [if_pos g1'] at hAT2
                  rw [g1] at HHA
                  have HAT2 := Lib.hid hAT2
                  clear hAT2 g1 g1'
                  obtain ⟨bp, op, cp, p1, p2, hatp⟩ := stAt_pc hst hknl
                  obtain ⟨n1, n2, n3, n4, n5, n6⟩ := vBd_piece2 l hv kn hknl
                  have pd := hatp.2.2.2.2
                  obtain ⟨d, hd⟩ : ∃ d, d = l.ps[kn].d := ⟨_, rfl⟩
                  rw [← hd] at pd n5 n6 HAT2
                  clear hd hatp n1 n2 n3 n4
                  have s5 : IntKind.i64.wrap d = d := by rw [IntKind.wrap_i64]; omega
                  have s6 : IntKind.i64.wrap (ft + d) = ft + d := by rw [IntKind.wrap_i64]; omega
                  have HN : Hid ((candP l.ps pl i ++ candN l.ps fs i (m + 1)).map (mkH i) = (candP l.ps pl i ++ candN l.ps fs i m).map (mkH i) ++ [(⟨ft + d, i, m, kn⟩ : Hi)]) := Lib.hid (by
                    rw [HS.out, HAT2.out, ← List.append_assoc, List.map_append]; rfl)
                  go_wp2
                  (refine wp_region_ext (by kernel_rfl) (by kernel_rfl) ?_; have hX := @ext_cell; (repeat (go_big_quiet_step (first | (go_at_call 49; exact ext_same (HOP.out _)) | (go_at_call 48; exact ext_same (HHA.out _))))); refine wpQuiet_nil ?_; clear hX; intro wx hw'; obtain ⟨⟨wx, hbx⟩, rfl⟩ := hw'; obtain ⟨hcx, hfx⟩ := bcell hbx)
                  have hXy : Below bl X wx := hb.trans (hbx.mono hzb)
                  have hownx := own_below HOWN.out hbx (Nat.le_refl _)
                  have HOWNx := Lib.hid hownx
                  have HXy := Lib.hid hXy
                  have hzx := Nat.le_trans hzm hXy.size
                  have k0 : wx.cell? ⟨bf, offf + kn * 3, none⟩ = some (.int .i64 ft) := by rw [hbx.cell (p := ⟨_, _, none⟩) hbfr]; exact r0
                  have k1 : wx.cell? ⟨bs, 0, none⟩ = some (.pointer (some ⟨g, 0, none⟩)) := by rw [hbx.cell (p := ⟨_, _, none⟩) b1]; exact y4
                  have k2 : wx.cell? ⟨g, 0, none⟩ = some (.slice (some ⟨bp, op, none⟩) l.ps.length cp) := by rw [hbx.cell (p := ⟨_, _, none⟩) b3]; exact p1
                  have k3 : wx.cell? ⟨bp, op + kn * 5 + 4, none⟩ = some (.int .i8 d) := by rw [hbx.cell (p := ⟨_, _, none⟩) p2]; exact pd
                  have k4 : wx.cell? ⟨bi, 0, none⟩ = some (.int .i64 i) := by rw [hbx.cell (p := ⟨_, _, none⟩) b2]; exact y5
                  have hbpw : bp < bl := by
                    obtain ⟨b9, o9, c9, p1', p2', -⟩ := stAt_pc HST.out hknl
                    have e9 : wr.cell? ⟨g, 0, none⟩ = some (.slice (some ⟨b9, o9, none⟩) l.ps.length c9) := by rw [hwX.cell (p := ⟨_, _, none⟩) hgl]; exact p1'
                    rw [p1] at e9
                    simp only [Option.some.injEq, Value.slice.injEq, Addr.mk.injEq] at e9
                    omega
                  clear hcx hfx r0 r1 y4 y5 p1 pd u0 w1' hbx hownx hXy hst hwX
                  go_upto_region 12 with fail
                  go_region_held3 (fun w' => w'.cell? ⟨bf, offf + kn * 3, none⟩ = some (.int .i64 ft) ∧ w'.cell? ⟨bs, 0, none⟩ = some (.pointer (some ⟨g, 0, none⟩)) ∧ w'.cell? ⟨g, 0, none⟩ = some (.slice (some ⟨bp, op, none⟩) l.ps.length cp) ∧ w'.cell? ⟨bp, op + kn * 5 + 4, none⟩ = some (.int .i8 d) ∧ w'.cell? ⟨bi, 0, none⟩ = some (.int .i64 i)) (first | go_keep | (go_split_ands; refine ⟨?_, ?_, ?_, ?_, ?_⟩ <;> (rw [hgrow.cell_far _ (by simp; omega) (fun e => by have := (HOWNx.out.lt _ e.symm).1; simp only at this; omega)]; assumption))) (first | (refine step_append_lies _ (by rfl) _ _ _ (by rfl) bl 103 i0 _ 4 32 Try.underlying56 hi0 hiz0 hiz1 hiz2 rfl (by omega) (.slice av n capv) n (flat Hi.cells ((candP l.ps pl i ++ candN l.ps fs i m).map (mkH i))) (by rfl) (own_below HOWNx.out (by repeat (first | with_reducible exact Below.refl _ _ | with_reducible assumption | with_reducible apply bl_drewN | with_reducible apply bl_drew | with_reducible apply bl_alloc | (with_reducible refine bl_set ?_ (by first | (simp; done) | (simp; omega)) _) | with_reducible refine bl_trans ?_ (by with_reducible assumption))) (Nat.le_refl _)) ⟨wx.heap.size, 0, none⟩ 1 1 (Hi.cells ⟨ft + d, i, m, kn⟩) (by rfl) (by rfl) (World.news_of_block (cs := #[.int .i64 (ft + d), .int .i64 i, .int .i64 m, .int .i64 kn]) (t := 103) (fr := (0, 0)) (heap_alloc_new _ _)) (Hi.one _) (by omega) (by unfold maxLen; omega) (by omega) (by simp; omega) _ rfl ?_; intro gg cap3 w3 hown3 hgrow hat3 hlt3))
                  have hb3 : Below bl X w3 := (HXy.out.trans ((show Below wx.heap.size wx _ from (by repeat (first | with_reducible exact Below.refl _ _ | with_reducible assumption | with_reducible apply bl_drewN | with_reducible apply bl_drew | with_reducible apply bl_alloc | (with_reducible refine bl_set ?_ (by first | (simp; done) | (simp; omega)) _) | with_reducible refine bl_trans ?_ (by with_reducible assumption)))).mono hzx)).grown hgrow (by simp; omega) (fun q hq => (HOWNx.out.lt q hq).1)
                  go_wp2
                  go_roundw
                  case rel => exact ⟨m + 1, n + 1, by omega, by omega, by go_num, by rw [HN.out, flat_append]; exact hown3, hb3⟩
                  case measure => simp [intOf]; omega
                · rw [if_neg g1'] at hAT2
                  rw [g1] at HHA
                  have HN := Lib.hid (hnone.out hAT2)
                  clear hAT2 g1 g1'
                  go_wp2
                  (refine wp_region_ext (by kernel_rfl) (by kernel_rfl) ?_; have hX := @ext_cell; (repeat (go_big_quiet_step (first | (go_at_call 49; exact ext_same (HOP.out _)) | (go_at_call 48; exact ext_same (HHA.out _))))); refine wpQuiet_nil ?_; clear hX; intro wx hw'; obtain ⟨⟨wx, hbx⟩, rfl⟩ := hw'; obtain ⟨hcx, hfx⟩ := bcell hbx)
                  have hXy : Below bl X wx := hb.trans (hbx.mono hzb)
                  have hown2 := own_below HOWN.out hbx (Nat.le_refl _)
                  go_wp2
                  go_roundw
                  case rel => exact ⟨m + 1, n, by omega, by omega, by go_num, by rw [HN.out]; exact hown2, hXy⟩
                  case measure => simp [intOf]; omega
        · have hm4 : m = 4 := by omega
          subst hm4
          have hwX : Below w.heap.size w wr := HB3.out.trans (hb.mono (by omega))
          obtain ⟨L, hL⟩ : ∃ L, L = (candP l.ps pl i ++ candN l.ps fs i 4).map (mkH i) := ⟨_, rfl⟩
          have hokL : HisOk L := by
            intro j hj
            have hm := List.getElem_mem hj
            generalize L[j] = y at hm ⊢
            rw [hL, List.mem_map] at hm
            obtain ⟨x, hx, hxe⟩ := hm
            have h3x : ht3 x := by
              rcases List.mem_append.1 hx with hx | hx
              · exact HP3.out x hx
              · exact candN_ht3 l hv fs hfs i 4 (by omega) x hx
            rw [← hxe]
            exact mkH_ok i (by omega) x h3x.1 h3x.2.1 h3x.2.2
          have HF : Hid (L.filter (fun p => !(!canH l.ps i (p.t, p.s, p.b))) = (dueC l.ps pl fs i).map (mkH i)) := Lib.hid (by rw [hL, filter_mk]; rfl)
          rw [← hL] at hown
          have hnL : n = L.length := by
            have h9 := hown.1
            rw [flat_length Hi.len] at h9
            omega
          subst hnL
          clear hL
          have HD := Lib.hid (deleteFuncHi_any 51 #[.pointer (some ⟨bs, 0, none⟩), .pointer (some ⟨bi, 0, none⟩)] bl _ L wr hown hokL (by omega) hzb eg_follows1 (fun p => !canH l.ps i (p.t, p.s, p.b)) (fun p w1 hp hb1 => follows1_any g l i hi bs bi p hp w1 (HST.out.step (hwX.trans (hb1.mono (by omega)))) (by have := hb1.size; omega) (by have := hb1.size; omega)
            (by rw [hb1.cell (p := ⟨_, _, none⟩) (show bs < bl by omega), hb.cell (p := ⟨_, _, none⟩) (show bs < bl by omega)]; exact x4) (by rw [hb1.cell (p := ⟨_, _, none⟩) (show bi < bl by omega), hb.cell (p := ⟨_, _, none⟩) (show bi < bl by omega)]; exact x5) (by omega)))
          have hDl : ((dueC l.ps pl fs i).map (mkH i)).length ≤ L.length := by rw [← HF.out]; exact List.length_filter_le _ _
          rw [HF.out] at HD
          have HMIN := Lib.hid (due_min l.ps pl fs i)
          have HNONE : Hid ((dueC l.ps pl fs i).map (mkH i) = [] → due l.ps pl fs i = ⟨-1, 0, -1⟩) := Lib.hid (fun h9 => by
            rw [List.map_eq_nil_iff] at h9
            unfold due; rw [h9]; rfl)
          obtain ⟨av, capv, hve, -, -, -⟩ := own_at hown
          subst hve
          have HSD : Hid (∀ mm ∈ (dueC l.ps pl fs i).map (mkH i), 0 ≤ mm.s ∧ mm.s ≤ 3) := Lib.hid (by
            intro mm hmm
            rw [← HF.out, List.mem_filter] at hmm
            obtain ⟨j, hj, rfl⟩ := List.mem_iff_getElem.1 hmm.1
            exact (hokL j hj).2.2.1)
          obtain ⟨D, hD⟩ : ∃ D, D = (dueC l.ps pl fs i).map (mkH i) := ⟨_, rfl⟩
          rw [← hD] at HD HMIN HNONE hDl HSD
          clear hD HF hokL
          have O8X := Lib.hid (fun (w' : World) (h' : Below bl X w') => own_below O8.out h' hzl)
          go_wp2_with fail
          refine HD.out.mono ?_
          rintro e w2 ⟨v', rfl, hown2, hb2⟩
          have hbX2 := hb.trans hb2
          have o8 := O8X.out w2 hbX2
          have hbw2 : Below w.heap.size w w2 := HB3.out.trans (hbX2.mono (by omega))
          obtain ⟨av2, capv2, hve2, hsl2, -, hmx2⟩ := own_at hown2
          subst hve2
          clear hown hb2 HD
          by_cases hz : D = []
          · have HDV := Lib.hid (HNONE.out hz)
            subst hz
            have HSL := Lib.hid hsl2
            clear hsl2
            go_wp2_with fail
            refine (stay_any _).mono ?_
            rintro e w4 ⟨rfl, hb4⟩
            have o8b := own_below o8 hb4 (Nat.le_refl _)
            have O8b := Lib.hid o8b
            obtain ⟨⟨v0, c0⟩, f0⟩ := own_cell o8b (j := 0) (by omega)
            obtain ⟨⟨v1, c1⟩, f1⟩ := own_cell o8b (j := 1) (by omega)
            obtain ⟨⟨v2, c2⟩, f2⟩ := own_cell o8b (j := 2) (by omega)
            clear o8 o8b
            go_wp2
            have hs := own_setCells (Fa.cells ⟨-1, 0, -1⟩) (A := []) (R := Fa.cells ⟨0, 0, 0⟩) (j := 0) O8b.out rfl (Nat.le_refl _)
            obtain ⟨cur, hh, hcur⟩ := own_one2 hs
            have hbs : Below w.heap.size w (setCells w4 br 0 (Fa.cells ⟨-1, 0, -1⟩)) := bl_grown (bl_trans hbw2 hb4) (grown_setCells _ _ _ _) (fun q hq => by cases hq; omega)
            refine bodyPost_ret (v := .agg cur) (results_cell_row Try.results25 _ _ br 40 cur (0, 0) _ rfl hh Try.underlying40 rfl (by rw [hcur]; kernel_rfl)) rfl ⟨?_, hbs⟩
            rw [hcur, HDV.out]; rfl
          · have hl1 : 1 ≤ D.length := by cases D with | nil => exact absurd rfl hz | cons x xs => simp
            have hl0 : (D.length == 0) = false := by simpa using hz
            have HMF := Lib.hid (minFuncHi_any (B := w2.heap.size) av2 capv2 D w2 hsl2 (Nat.le_refl _) (by omega) hl1)
            clear hz hl1 hsl2
            go_wp2_with fail
            refine HMF.out.mono ?_
            rintro e w3 ⟨mm, rfl, hm1, hm2, hb3⟩
            have HDV := Lib.hid (HMIN.out mm hm1 hm2)
            have hms : 0 ≤ mm.s ∧ mm.s ≤ 3 := HSD.out mm hm1
            obtain ⟨ms1, ms2⟩ := hms
            have s7 := wrap8_side mm.s ms1 ms2
            have o8b := own_below o8 hb3 (Nat.le_refl _)
            have hbr3 : br < w3.heap.size := by have h9 : br < w2.heap.size := (o8.lt _ rfl).2; have := hb3.size; omega
            have O8b := Lib.hid o8b
            obtain ⟨⟨v0, c0⟩, f0⟩ := own_cell o8b (j := 0) (by omega)
            obtain ⟨⟨v1, c1⟩, f1⟩ := own_cell o8b (j := 1) (by omega)
            obtain ⟨⟨v2, c2⟩, f2⟩ := own_cell o8b (j := 2) (by omega)
            have hbw3 : Below w.heap.size w w3 := bl_trans hbw2 hb3
            have HBW3 := Lib.hid hbw3
            clear o8 o8b hm1 hm2 hbw3
            go_wp2
            have hs := own_setCells (Fa.cells ⟨mm.t, mm.s, mm.b⟩) (A := []) (R := Fa.cells ⟨0, 0, 0⟩) (j := 0) O8b.out rfl (Nat.le_refl _)
            have hs2 := own_below hs (bl_alloc (o := .cells #[.int .i64 mm.t, .int .i64 mm.p, .int .i64 mm.s, .int .i64 mm.b] 103) (Below.refl _ _)) (Nat.le_refl _)
            obtain ⟨cur, hh, hcur⟩ := own_one2 hs2
            have hbs : Below w.heap.size w ((setCells w3 br 0 (Fa.cells ⟨mm.t, mm.s, mm.b⟩)).alloc (.cells #[.int .i64 mm.t, .int .i64 mm.p, .int .i64 mm.s, .int .i64 mm.b] 103)) := bl_alloc (bl_grown HBW3.out (grown_setCells _ _ _ _) (fun q hq => by cases hq; omega))
            refine bodyPost_ret (v := .agg cur) (results_cell_row Try.results25 _ _ br 40 cur (0, 0) _ rfl hh Try.underlying40 rfl (by rw [hcur]; kernel_rfl)) rfl ⟨?_, hbs⟩
            rw [hcur, HDV.out]; rfl
end Go.Proofs.Ytmeefmoblkiebaa
/- Contracts: FirstWrong and CheckFalls (the program). -/
namespace Go.Proofs.Ytmeefmoblkiebaa
open Go.RowKit
set_option linter.unusedVariables false
set_option linter.unusedSimpArgs false
set_option maxHeartbeats 400000
set_option maxRecDepth 100000
theorem sv_val {α : Type} {f : α → List Value} {w : World} {v : Value} {xs : List α} (h : SV f w v xs) : ∃ a cap, v = .slice a xs.length cap ∧ SlAt w.heap.size w a (flat f xs) := h
set_option maxHeartbeats 1600000 in
theorem firstWrong_any (wd hg : Int) (s : Value) (ps : List Pc) (v1 : Value) (pl : List Pu) (v2 : Value) (fs : List Fa) (w : World) (hps : PV w s ps) (hok : (Bd.mk wd hg ps).ok) (hn : ps.length ≤ 9000000)
    (h1 : SV Pu.cells w v1 pl) (ok1 : PusOk pl) (n1 : pl.length ≤ 9000000) (h2 : SV Fa.cells w v2 fs) (ok2 : FasOk fs) (n2 : fs.length ≤ 9000000) :
    Calls Try.prog 9 #[bdv wd hg s, v1, v2] w fun e w' => e = .returned (.tuple #[.int .i64 (fwVal ⟨wd, hg, ps⟩ pl fs), .int .i64 (fwCode ⟨wd, hg, ps⟩ pl fs)]) ∧ Below w.heap.size w w' := by
  have HPS := Lib.hid hps
  have H1 := Lib.hid h1
  obtain ⟨a, cap, rfl, hpsa⟩ := hps
  obtain ⟨a1, cap1, rfl, h1⟩ := h1
  obtain ⟨a2, cap2, rfl, h2⟩ := h2
  have HB := Lib.hid (BP.new (l := ⟨wd, hg, ps⟩) (w := w) ⟨a, cap, rfl, hpsa⟩ 27)
  have hba : Below w.heap.size w (w.alloc (.cells #[.int .i8 wd, .int .i8 hg, .slice a ps.length cap] 27)) := bl_alloc (Below.refl _ _)
  have HVP := Lib.hid (validPushes_any wd hg (.slice a ps.length cap) ps (.slice a1 pl.length cap1) pl _ (HPS.out.step hba) hok hn (H1.out.step hba) ok1 n1)
  have HCF := Lib.hid (fun w1 (hb : Below w.heap.size w w1) => containsFuncFa_any (B := w.heap.size) 20 #[] a2 cap2 fs w1 (h2.below hb (Nat.le_refl _)) ok2 hb.size (by omega) eg_FirstWrong1 (fun p => !okFall p) (fun p w2 hp hb2 => firstWrong1_any p hp w2))
  have e1 : fs.any (fun p => !okFall p) = !fs.all okFall := any_not _ _
  rw [e1] at HCF
  have HBA := Lib.hid hba
  clear e1 hba hpsa
  cases g1 : (vBd ⟨wd, hg, ps⟩ && vPus ⟨wd, hg, ps⟩ pl) with
  | false =>
    rw [g1] at HVP
    have HC : Hid (fwCode ⟨wd, hg, ps⟩ pl fs = 1) := Lib.hid (by unfold fwCode; rw [g1]; rfl)
    have HVv : Hid (fwVal ⟨wd, hg, ps⟩ pl fs = 0) := Lib.hid (by unfold fwVal; rw [g1]; rfl)
    clear g1
    go_enter Try.func9, Try.ntmps9
    go_wp2_with fail
    refine HVP.out.mono ?_
    rintro e w1 ⟨rfl, hb1⟩
    go_wp2
    go_ret2
    exact ⟨by rw [HC.out, HVv.out]; rfl, bl_trans HBA.out hb1⟩
  | true =>
    rw [g1] at HVP
    cases g2 : fs.all okFall with
    | false =>
      rw [g2] at HCF
      have HC : Hid (fwCode ⟨wd, hg, ps⟩ pl fs = 2) := Lib.hid (by unfold fwCode; rw [g1, vFas_eq, g2]; rfl)
      have HVv : Hid (fwVal ⟨wd, hg, ps⟩ pl fs = 0) := Lib.hid (by unfold fwVal; rw [g1, vFas_eq, g2]; rfl)
      clear g1 g2
      go_enter Try.func9, Try.ntmps9
      go_wp2_with fail
      refine HVP.out.mono ?_
      rintro e w1 ⟨rfl, hb1⟩
      have hb01 := bl_trans HBA.out hb1
      have HB01 := Lib.hid hb01
      clear hb01
      go_wp2_with fail
      refine (HCF.out _ HB01.out).mono ?_
      rintro e w2 ⟨rfl, hb2⟩
      go_wp2
      go_ret2
      exact ⟨by rw [HC.out, HVv.out]; rfl, bl_trans HB01.out hb2⟩
    | true =>
      rw [g2] at HCF
      have HC : Hid (fwCode ⟨wd, hg, ps⟩ pl fs = if firstWrong ps pl fs < 0 then 6 else 0) := Lib.hid (by unfold fwCode; rw [g1, vFas_eq, g2]; rfl)
      have HVv : Hid (fwVal ⟨wd, hg, ps⟩ pl fs = if firstWrong ps pl fs < 0 then 0 else firstWrong ps pl fs) := Lib.hid (by unfold fwVal; rw [g1, vFas_eq, g2]; rfl)
      rw [Bool.and_eq_true] at g1
      obtain ⟨gv, gp⟩ := g1
      have gp2 := gp
      unfold vPus at gp2
      simp only [Bool.and_eq_true, decide_eq_true_eq] at gp2
      obtain ⟨⟨p1, p2⟩, p3⟩ := gp2
      have HFAS := Lib.hid g2
      have HP2 := Lib.hid p2
      have HGV := Lib.hid gv
      clear p3 gp g2 p2 gv
      have HHIT := Lib.hid (firstWrong_hit ps pl fs)
      have HNONE := Lib.hid (firstWrong_none ps pl fs)
      have HNN : Hid (∀ k : Nat, (0 : Int) ≤ (k : Int)) := Lib.hid (fun k => by omega)
      generalize firstWrong ps pl fs = FW at HC HVv HHIT HNONE
      have c5 : ps.length ≤ 200 := (vBd_bounds _ HGV.out).2.2.2.2
      go_enter Try.func9, Try.ntmps9
      go_wp2_with fail
      refine HVP.out.mono ?_
      rintro e w1 ⟨rfl, hb1⟩
      have hb01 := bl_trans HBA.out hb1
      have HB01 := Lib.hid hb01
      have HB1 := Lib.hid (HB.out.step hb1)
      clear hb01
      go_wp2_with fail
      refine (HCF.out _ HB01.out).mono ?_
      rintro e w2 ⟨rfl, hb2⟩
      have HB02 := Lib.hid (bl_trans HB01.out hb2)
      have HB2 := Lib.hid (HB1.out.step hb2)
      clear hb1 hb2
      go_wp2_with fail
      refine (stageOf_any w.heap.size ⟨wd, hg, ps⟩ w2 HB2.out HGV.out).mono ?_
      rintro e w3 ⟨g, rfl, hg3, hst3, hb3⟩
      have HB03 := Lib.hid (bl_trans HB02.out hb3)
      have HB3 := Lib.hid (HB2.out.step hb3)
      have HST3 := Lib.hid hst3
      have hgz := hst3.1
      clear hb3 hst3
      go_wp2_with fail
      refine (hitsOf_any (B := w.heap.size) w.heap.size ⟨wd, hg, ps⟩ a1 cap1 pl w3 HB3.out hok (show ps.length ≤ 10000000 by omega) (h1.below HB03.out (Nat.le_refl _)) HP2.out HB03.out.size p1).mono ?_
      rintro e w4 ⟨v, rfl, hown4, hb4⟩
      obtain ⟨av, capv, rfl, hsl4, -, -⟩ := own_at hown4
      have HSL4 := Lib.hid hsl4
      have HB04 := Lib.hid (bl_trans HB03.out hb4)
      have HB4 := Lib.hid (HB3.out.step hb4)
      have HST4 := Lib.hid (HST3.out.step hb4)
      have hz4 := HB04.out.size
      clear hb4 hown4 hsl4
      obtain ⟨-, s4, ⟨q0, q1, q2⟩, a4, cap4, rfl, -⟩ := HB4.out
      simp only at q0 q1 q2
      go_wp2
      go_loopw [23] (fun i wr => ∃ k : Nat, k ≤ ps.length ∧ i = .int .i64 k ∧ Hid (∀ j, j < k → wrongAt ps pl fs j = false) ∧ Below w4.heap.size w4 wr) (fun i _ => ps.length - (intOf i).toNat)
      case atStart => exact ⟨0, by omega, rfl, Lib.hid (fun j hj => by omega), Below.refl _ _⟩
      case round =>
        obtain ⟨k, hk, rfl, hno, hbW⟩ := hrel
        have hb2 := bl_trans HB04.out hbW
        have HB2 := Lib.hid hb2
        have hz2 := hb2.size
        have y2 : wr.cell? ⟨w.heap.size, 2, none⟩ = some (.slice a4 ps.length cap4) := by rw [hbW.cell (p := ⟨w.heap.size, 2, none⟩) (HB4.out).1]; exact q2
        by_cases hlt2 : k < ps.length
        · by_cases hin : k < fs.length
          · have hgd : decide (fs.length ≤ k) = false := decide_eq_false (by omega)
            obtain ⟨bf, offf, hbf0, hbf, hatf⟩ := fas_get h2 hin
            cases hbf0
            have hbfr : bf < wr.heap.size := by omega
            unfold FaAt at hatf
            have w0 : wr.cell? ⟨bf, offf + k * 3, none⟩ = some (.int .i64 fs[k].t) := by rw [hb2.cell (p := ⟨_, _, none⟩) hbf]; exact hatf.1
            have w1' : wr.cell? ⟨bf, offf + k * 3 + 1, none⟩ = some (.int .i8 fs[k].f) := by rw [hb2.cell (p := ⟨_, _, none⟩) hbf]; exact hatf.2.1
            have w2' : wr.cell? ⟨bf, offf + k * 3 + 2, none⟩ = some (.int .i64 fs[k].b) := by rw [hb2.cell (p := ⟨_, _, none⟩) hbf]; exact hatf.2.2
            have hwi := wrong_in ps pl fs k hin
            have HDC : ∀ u : Ext wr, Calls Try.prog 25 #[.pointer (some ⟨g, 0, none⟩), .int .i64 k, .slice (some ⟨bf, offf, none⟩) fs.length cap2, .slice av pl.length capv] u.w fun e w' => e = .returned (due ps pl fs k).val ∧ Below u.w.heap.size u.w w' := by
              intro u
              have hu := bl_trans hbW u.b
              exact follows_any (B := u.w.heap.size) g ⟨wd, hg, ps⟩ k (some ⟨bf, offf, none⟩) cap2 fs av capv pl u.w (HST4.out.step hu) HGV.out hlt2 ((h2.below (bl_trans HB04.out hu) (Nat.le_refl _)).wide (bl_trans HB04.out hu).size) HFAS.out n2 ((HSL4.out.below hu (Nat.le_refl _)).wide hu.size) HP2.out p1 (Nat.le_refl _)
            generalize due ps pl fs k = d at HDC hwi
            generalize fs[k] = f at w0 w1' w2' hwi
            obtain ⟨dt, df, db⟩ := d
            obtain ⟨ft, ff, fb⟩ := f
            simp only at w0 w1' w2'
            have HDC2 := Lib.hid HDC
            have hne := run_neq_fa ft ff fb dt df db
            clear HDC hatf y2
            rcases dec_cases ((⟨ft, ff, fb⟩ : Fa) ≠ ⟨dt, df, db⟩) with ⟨g1, -⟩ | ⟨g1, -⟩
            · rw [g1] at hne hwi
              have HW := Lib.hid (HHIT.out k hlt2 hno.out hwi)
              have HC2 := HC.out
              have HV2 := HVv.out
              rw [HW.out, if_neg (Int.not_lt.2 (HNN.out k))] at HC2 HV2
              have HC3 := Lib.hid HC2
              have HV3 := Lib.hid HV2
              clear g1 hwi HC2 HV2
              go_wp2
              (refine wp_region_ext (by kernel_rfl) (by kernel_rfl) ?_; have hX := @ext_cell; (repeat (go_big_quiet_step ((go_at_call 25; exact ext_call (HDC2.out _))))); refine wpQuiet_nil ?_; clear hX; intro wx hw'; obtain ⟨⟨wx, hbx⟩, rfl⟩ := hw'; obtain ⟨hcx, hfx⟩ := bcell hbx)
              go_wp2
              go_ret2
              exact ⟨by rw [HC3.out, HV3.out]; rfl, bl_trans hb2 hbx⟩
            · rw [g1] at hne hwi
              have HW : Hid (∀ j, j < k + 1 → wrongAt ps pl fs j = false) := Lib.hid (by
                intro j hj
                rcases Nat.lt_succ_iff_lt_or_eq.1 hj with h' | rfl
                · exact hno.out j h'
                · exact hwi)
              clear g1 hwi
              go_wp2
              (refine wp_region_ext (by kernel_rfl) (by kernel_rfl) ?_; have hX := @ext_cell; (repeat (go_big_quiet_step ((go_at_call 25; exact ext_call (HDC2.out _))))); refine wpQuiet_nil ?_; clear hX; intro wx hw'; obtain ⟨⟨wx, hbx⟩, rfl⟩ := hw'; obtain ⟨hcx, hfx⟩ := bcell hbx)
              go_wp2
              go_roundw
              case rel => exact ⟨k + 1, by omega, by go_num, HW, bl_trans hbW hbx⟩
              case measure => simp [intOf]; omega
          · have HW := Lib.hid (HHIT.out k hlt2 hno.out (by unfold wrongAt; rw [decide_eq_true (by omega), Bool.true_or]))
            have hgd : decide (fs.length ≤ k) = true := decide_eq_true (by omega)
            have HC2 := HC.out
            have HV2 := HVv.out
            rw [HW.out, if_neg (Int.not_lt.2 (HNN.out k))] at HC2 HV2
            have HC3 := Lib.hid HC2
            have HV3 := Lib.hid HV2
            clear HC2 HV2
            go_wp2
            (refine wp_region_ext (by kernel_rfl) (by kernel_rfl) ?_; have hX := @ext_cell; (repeat (go_big_quiet_step (fail))); refine wpQuiet_nil ?_; clear hX; intro wx hw'; obtain ⟨⟨wx, hbx⟩, rfl⟩ := hw'; obtain ⟨hcx, hfx⟩ := bcell hbx)
            go_wp2
            go_ret2
            exact ⟨by rw [HC3.out, HV3.out]; rfl, bl_trans hb2 hbx⟩
        · have hkn : k = ps.length := by omega
          subst hkn
          have hN := HNONE.out hno.out
          have HC2 := HC.out
          have HV2 := HVv.out
          by_cases hmore : ps.length < fs.length
          · rw [if_pos hmore] at hN
            rw [hN, if_neg (Int.not_lt.2 (HNN.out ps.length))] at HC2 HV2
            have HC3 := Lib.hid HC2
            have HV3 := Lib.hid HV2
            clear HC2 HV2 hN
            go_wp2
            go_ret2
            exact ⟨by rw [HC3.out, HV3.out]; rfl, hb2⟩
          · rw [if_neg hmore] at hN
            rw [hN, if_pos (by decide)] at HC2 HV2
            have HC3 := Lib.hid HC2
            have HV3 := Lib.hid HV2
            clear HC2 HV2 hN
            go_wp2
            go_ret2
            exact ⟨by rw [HC3.out, HV3.out]; rfl, hb2⟩
theorem checkFalls_any (wd hg : Int) (s : Value) (ps : List Pc) (v1 : Value) (pl : List Pu) (v2 : Value) (fs : List Fa) (w : World) (hps : PV w s ps) (hok : (Bd.mk wd hg ps).ok) (hn : ps.length ≤ 9000000)
    (h1 : SV Pu.cells w v1 pl) (ok1 : PusOk pl) (n1 : pl.length ≤ 9000000) (h2 : SV Fa.cells w v2 fs) (ok2 : FasOk fs) (n2 : fs.length ≤ 9000000) :
    Calls Try.prog 8 #[bdv wd hg s, v1, v2] w fun e w' => e = .returned (.tuple #[.bool (cfVal ⟨wd, hg, ps⟩ pl fs), .int .i64 (givenV ⟨wd, hg, ps⟩ pl fs)]) ∧ Below w.heap.size w w' := by
  have hba : Below w.heap.size w (w.alloc (.cells #[.int .i8 wd, .int .i8 hg, s] 27)) := bl_alloc (Below.refl _ _)
  have HFW := Lib.hid (firstWrong_any wd hg s ps v1 pl v2 fs _ (hps.step hba) hok hn (h1.step hba) ok1 n1 (h2.step hba) ok2 n2)
  have HBA := Lib.hid hba
  obtain ⟨a, cap, rfl, -⟩ := hps
  obtain ⟨a1, cap1, rfl, -⟩ := h1
  obtain ⟨a2, cap2, rfl, -⟩ := h2
  clear hba
  rcases Bool.eq_false_or_eq_true ((vBd ⟨wd, hg, ps⟩ && vPus ⟨wd, hg, ps⟩ pl) && vFas fs) with g0 | g0
  · have HG := Lib.hid (gv_fw _ _ _ g0)
    have HV := Lib.hid (gv_0 _ _ _ g0)
    clear g0
    by_cases hneg : firstWrong ps pl fs < 0
    · have HC : Hid (fwCode ⟨wd, hg, ps⟩ pl fs = 6) := Lib.hid (by rw [HG.out.1]; exact if_pos hneg)
      have HCF : Hid (cfVal ⟨wd, hg, ps⟩ pl fs = true) := Lib.hid (by rw [HG.out.2.2]; exact decide_eq_true hneg)
      rw [HC.out] at HFW
      clear hneg HG
      go_enter Try.func8, Try.ntmps8
      go_wp2_with fail
      refine HFW.out.mono ?_
      rintro e w1 ⟨rfl, hb1⟩
      go_wp2
      go_ret2
      exact ⟨by rw [HCF.out, HV.out]; rfl, bl_trans HBA.out hb1⟩
    · have HC : Hid (fwCode ⟨wd, hg, ps⟩ pl fs = 0) := Lib.hid (by rw [HG.out.1]; exact if_neg hneg)
      have HCF : Hid (cfVal ⟨wd, hg, ps⟩ pl fs = false) := Lib.hid (by rw [HG.out.2.2]; exact decide_eq_false hneg)
      rw [HC.out] at HFW
      clear hneg HG
      go_enter Try.func8, Try.ntmps8
      go_wp2_with fail
      refine HFW.out.mono ?_
      rintro e w1 ⟨rfl, hb1⟩
      go_wp2
      go_ret2
      exact ⟨by rw [HCF.out, HV.out]; rfl, bl_trans HBA.out hb1⟩
  · obtain ⟨hg12, hc, hv, hcf⟩ := gv_1 _ _ _ g0
    clear g0
    have HCF := Lib.hid hcf
    rw [hc] at HFW
    clear hc hv hcf
    generalize givenV ⟨wd, hg, ps⟩ pl fs = gv at hg12 HFW ⊢
    rcases hg12 with rfl | rfl
    · go_enter Try.func8, Try.ntmps8
      go_wp2_with fail
      refine HFW.out.mono ?_
      rintro e w1 ⟨rfl, hb1⟩
      go_wp2
      go_ret2
      exact ⟨by rw [HCF.out]; rfl, bl_trans HBA.out hb1⟩
    · go_enter Try.func8, Try.ntmps8
      go_wp2_with fail
      refine HFW.out.mono ?_
      rintro e w1 ⟨rfl, hb1⟩
      go_wp2
      go_ret2
      exact ⟨by rw [HCF.out]; rfl, bl_trans HBA.out hb1⟩
end Go.Proofs.Ytmeefmoblkiebaa
/- Contracts: equal falls (spec.SameFalls). -/
namespace Go.Proofs.Ytmeefmoblkiebaa
open Go.RowKit
set_option linter.unusedVariables false
set_option linter.unusedSimpArgs false
set_option maxHeartbeats 400000
set_option maxRecDepth 100000
theorem l02Same_any {B : Nat} (a a' : Option Addr) (cap cap' : Nat) (ps qs : List Fa) (w : World) (hps : SlAt B w a (flat Fa.cells ps)) (hqs : SlAt B w a' (flat Fa.cells qs)) (hB : B ≤ w.heap.size) (hn : ps.length ≤ 10000000) (hn' : qs.length ≤ 10000000) :
    Calls Try.prog 28 #[.slice a ps.length cap, .slice a' qs.length cap'] w fun e w' => e = .returned (.bool (decide (ps = qs))) ∧ Below w.heap.size w w' := by
  by_cases hl : ps.length = qs.length
  · have hl2 : ((ps.length : Int) != (qs.length : Int)) = false := by simp [hl]
    have Hl := Lib.hid hl; clear hl
    go_enter Try.func28, Try.ntmps28
    go_wp2
    go_loopw [5] (fun i wr => ∃ k : Nat, k ≤ ps.length ∧ i = .int .i64 k ∧ ps.take k = qs.take k ∧ Below w.heap.size w wr) (fun i _ => ps.length - (intOf i).toNat)
    case atStart => exact ⟨0, by omega, rfl, by simp, Below.refl _ _⟩
    case round =>
      obtain ⟨k, hk, rfl, heq, hb⟩ := hrel
      have Heq := Lib.hid heq; clear heq
      by_cases hlt : k < ps.length
      · have hlt' : k < qs.length := by rw [← Hl.out]; exact hlt
        obtain ⟨b, off, rfl, hbl, hat⟩ := fas_get (hps.below hb hB) hlt
        obtain ⟨b', off', rfl, hbl', hat'⟩ := fas_get (hqs.below hb hB) hlt'
        unfold FaAt at hat hat'
        have hrun := fun W : World => run_neq_fa ps[k].t ps[k].f ps[k].b qs[k].t qs[k].f qs[k].b W
        cases g3 : (!decide (ps[k].t = qs[k].t) || (!decide (ps[k].f = qs[k].f) || !decide (ps[k].b = qs[k].b))) with
        | false =>
          have G2 : Hid (ps[k] = qs[k]) := Lib.hid (by
            have h1 : ps[k].t = qs[k].t ∧ ps[k].f = qs[k].f ∧ ps[k].b = qs[k].b := by simpa using g3
            have h2 : ps[k] = ⟨ps[k].t, ps[k].f, ps[k].b⟩ := rfl
            rw [h2, h1.1, h1.2.1, h1.2.2])
          go_wp2_with fail
          go_quiet (fail)
          go_wp2
          go_roundw
          case rel => exact ⟨k + 1, by omega, by go_num, by rw [List.take_succ_eq_append_getElem hlt, List.take_succ_eq_append_getElem hlt', Heq.out, G2.out], (by repeat (first | with_reducible exact Below.refl _ _ | with_reducible assumption | with_reducible apply bl_drewN | with_reducible apply bl_drew | with_reducible apply bl_alloc | (with_reducible refine bl_set ?_ (by first | (simp; done) | (simp; omega)) _) | with_reducible refine bl_trans ?_ (by with_reducible assumption)))⟩
          case measure => simp [intOf]; omega
        | true =>
          have G2 : Hid (ps ≠ qs) := Lib.hid (by
            intro h
            subst h
            simp at g3)
          go_wp2_with fail
          go_quiet (fail)
          go_wp2
          go_ret
          have hne := G2.out
          exact ⟨by simp [hne], (by repeat (first | with_reducible exact Below.refl _ _ | with_reducible assumption | with_reducible apply bl_drewN | with_reducible apply bl_drew | with_reducible apply bl_alloc | (with_reducible refine bl_set ?_ (by first | (simp; done) | (simp; omega)) _) | with_reducible refine bl_trans ?_ (by with_reducible assumption)))⟩
      · go_wp2
        go_ret
        have hne : ps = qs := by
          have := Heq.out
          rwa [List.take_of_length_le (by omega), List.take_of_length_le (by have := Hl.out; omega)] at this
        exact ⟨by simp [hne], (by repeat (first | with_reducible exact Below.refl _ _ | with_reducible assumption | with_reducible apply bl_drewN | with_reducible apply bl_drew | with_reducible apply bl_alloc | (with_reducible refine bl_set ?_ (by first | (simp; done) | (simp; omega)) _) | with_reducible refine bl_trans ?_ (by with_reducible assumption)))⟩
  · have hl2 : ((ps.length : Int) != (qs.length : Int)) = true := by simp; omega
    have Hl := Lib.hid hl; clear hl
    go_enter Try.func28, Try.ntmps28
    go_wp2
    go_ret
    have hne : ps ≠ qs := fun h => Hl.out (by rw [h])
    exact ⟨by simp [hne], (by repeat (first | with_reducible exact Below.refl _ _ | with_reducible assumption | with_reducible apply bl_drewN | with_reducible apply bl_drew | with_reducible apply bl_alloc | (with_reducible refine bl_set ?_ (by first | (simp; done) | (simp; omega)) _) | with_reducible refine bl_trans ?_ (by with_reducible assumption)))⟩
theorem specSameFalls_any {B : Nat} (a a' : Option Addr) (cap cap' : Nat) (ps qs : List Fa) (w : World) (hps : SlAt B w a (flat Fa.cells ps)) (hqs : SlAt B w a' (flat Fa.cells qs)) (hB : B ≤ w.heap.size) (hn : ps.length ≤ 10000000) (hn' : qs.length ≤ 10000000) :
    Calls Try.prog 12 #[.slice a ps.length cap, .slice a' qs.length cap'] w fun e w' => e = .returned (.bool (decide (ps = qs))) ∧ Below w.heap.size w w' := by
  go_enter Try.func12, Try.ntmps12
  go_wp2_with fail
  refine (l02Same_any a a' cap cap' ps qs w hps hqs hB hn hn').mono ?_
  rintro e w1 ⟨rfl, hb⟩
  go_wp2
  go_ret
  exact ⟨rfl, hb⟩
end Go.Proofs.Ytmeefmoblkiebaa
/- Bytes out of the claim's open values. -/
namespace Go.Proofs.Ytmeefmoblkiebaa
open Go.RowKit
def okU8 (n : Int) : Prop := 0 ≤ n ∧ n ≤ 255
theorem conv_u8 (cs : List Value) (h : Fits [.u8] cs) : ∃ p : Int, okU8 p ∧ cs = U8c p := by
  obtain ⟨a, _, rfl, h0, h⟩ := fits_cons h
  obtain rfl := fits_nil h
  refine ⟨a, ?_, rfl⟩
  have := bounds_u8 h0
  exact ⟨by omega, by omega⟩
end Go.Proofs.Ytmeefmoblkiebaa
