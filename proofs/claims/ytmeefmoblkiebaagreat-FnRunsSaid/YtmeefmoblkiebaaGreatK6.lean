import Derived.Test.YtmeefmoblkiebaaGreatK5
import Derived.BigQuiet
import Derived.Test.YtmeefmoblkiebaaGreatShg
import Derived.Deep.RegionHeld3
import Derived.Deep.CutRange
import Derived.Deep.CutBlock
/- What the laws have drawn: a board, pushes, falls; rows of the call's own. -/
namespace Go.Proofs.YtmeefmoblkiebaaGreat
open Go.RowKit
set_option linter.unusedVariables false
set_option linter.unusedSimpArgs false
set_option maxHeartbeats 400000
set_option maxRecDepth 100000
theorem infoFaD : (Tryz.prog.info? 43).map (fun i => (i.zero, i.size, i.bytes)) = some (some (.agg #[.int .i64 0, .int .i8 0, .int .i64 0]), 3, 24) := by kernel_rfl
/-- A box with three cells. -/
def Bx3 (w : World) (b : Nat) (v0 v1 v2 : Value) : Prop := b < w.heap.size ∧ w.cell? ⟨b, 0, none⟩ = some v0 ∧ w.cell? ⟨b, 1, none⟩ = some v1 ∧ w.cell? ⟨b, 2, none⟩ = some v2
theorem Bx3.step {w w' : World} {b : Nat} {v0 v1 v2 : Value} (h : Bx3 w b v0 v1 v2) (hb : Below w.heap.size w w') : Bx3 w' b v0 v1 v2 := by
  obtain ⟨h1, h2, h3, h4⟩ := h
  refine ⟨Nat.lt_of_lt_of_le h1 hb.size, ?_, ?_, ?_⟩
  all_goals
    rw [hb.cell (p := ⟨b, _, none⟩) h1]
    assumption
theorem Bx3.new (w : World) (v0 v1 v2 : Value) (T : TypeId) : Bx3 (w.alloc (.cells #[v0, v1, v2] T)) w.heap.size v0 v1 v2 := by
  have hh := heap_alloc_new w (.cells #[v0, v1, v2] T)
  refine ⟨by simp, ?_, ?_, ?_⟩ <;> (rw [cell_of_row _ _ _ _ _ _ hh]; rfl)
theorem own_sv {α : Type} {f : α → List Value} {w : World} {base : Nat} {e : TypeId} {size : Nat} {v : Value} {xs : List α} (h : w.ownsRow base e size v xs.length (flat f xs)) : SV f w v xs := by
  obtain ⟨a, cap, rfl, hs, -⟩ := own_at h
  exact ⟨a, cap, rfl, hs⟩
theorem flat_t (fs : List Fa) : ∀ (k : Nat) (hk : k < fs.length) (x : Int), (flat Fa.cells fs).set (k * 3) (.int .i64 x) = flat Fa.cells (fs.set k ⟨x, fs[k].f, fs[k].b⟩) := by
  induction fs with
  | nil => intro k hk; simp at hk
  | cons f fs ih =>
    intro k hk x
    cases k with
    | zero => simp [flat_cons, Fa.cells]
    | succ k =>
      have := ih k (by simpa using hk) x
      rw [show (k + 1) * 3 = k * 3 + 1 + 1 + 1 by omega]
      simp only [List.set_cons_succ, flat_cons, Fa.cells, List.cons_append, List.nil_append, List.getElem_cons_succ] at this ⊢
      rw [this]
theorem flat_f (fs : List Fa) : ∀ (k : Nat) (hk : k < fs.length) (x : Int), (flat Fa.cells fs).set (k * 3 + 1) (.int .i8 x) = flat Fa.cells (fs.set k ⟨fs[k].t, x, fs[k].b⟩) := by
  induction fs with
  | nil => intro k hk; simp at hk
  | cons f fs ih =>
    intro k hk x
    cases k with
    | zero => simp [flat_cons, Fa.cells]
    | succ k =>
      have := ih k (by simpa using hk) x
      rw [show (k + 1) * 3 + 1 = k * 3 + 1 + 1 + 1 + 1 by omega]
      simp only [List.set_cons_succ, flat_cons, Fa.cells, List.cons_append, List.nil_append, List.getElem_cons_succ] at this ⊢
      rw [this]
theorem flat_b (fs : List Fa) : ∀ (k : Nat) (hk : k < fs.length) (x : Int), (flat Fa.cells fs).set (k * 3 + 2) (.int .i64 x) = flat Fa.cells (fs.set k ⟨fs[k].t, fs[k].f, x⟩) := by
  induction fs with
  | nil => intro k hk; simp at hk
  | cons f fs ih =>
    intro k hk x
    cases k with
    | zero => simp [flat_cons, Fa.cells]
    | succ k =>
      have := ih k (by simpa using hk) x
      rw [show (k + 1) * 3 + 2 = k * 3 + 2 + 1 + 1 + 1 by omega]
      simp only [List.set_cons_succ, flat_cons, Fa.cells, List.cons_append, List.nil_append, List.getElem_cons_succ] at this ⊢
      rw [this]
theorem small_set {fs : List Fa} {k : Nat} {f : Fa} (h : ∀ f ∈ fs, smallFa f) (hf : smallFa f) : ∀ x ∈ fs.set k f, smallFa x := by
  intro x hx
  rcases List.mem_or_eq_of_mem_set hx with hx | rfl
  · exact h x hx
  · exact hf
/-- A row of falls of the call's own, while it is turned. -/
structure WrS (u0 u : World) (g n gc : Nat) (ws : List Fa) : Prop where
  len : ws.length = n
  own : u.ownsRow u0.heap.size 43 3 (.slice (some ⟨g, 0, none⟩) n gc) n (flat Fa.cells ws)
  b : Below u0.heap.size u0 u
  small : ∀ f ∈ ws, smallFa f
theorem WrS.lt {u0 u : World} {g n gc : Nat} {ws : List Fa} (h : WrS u0 u g n gc ws) : u0.heap.size ≤ g ∧ g < u.heap.size := h.own.lt g rfl
theorem WrS.t {u0 u : World} {g n gc : Nat} {ws : List Fa} (h : WrS u0 u g n gc ws) (k : Nat) (hk : k < ws.length) (x : Int) (hx : -1 ≤ x ∧ x ≤ 2810) : WrS u0 (u.setCell ⟨g, k * 3, none⟩ (.int .i64 x)) g n gc (ws.set k ⟨x, ws[k].f, ws[k].b⟩) := by
  have hs := h.small ws[k] (List.getElem_mem hk)
  refine ⟨by rw [List.length_set, h.len], ?_, h.b.setCell h.lt.1 _, small_set h.small ⟨hx, hs.2⟩⟩
  rw [← flat_t ws k hk x]
  exact (h.own.stored _ _).1
theorem WrS.fb {u0 u : World} {g n gc : Nat} {ws : List Fa} (h : WrS u0 u g n gc ws) (k : Nat) (hk : k < ws.length) (x : Int) (hx : 0 ≤ x ∧ x ≤ 3) : WrS u0 (u.setCell ⟨g, k * 3 + 1, none⟩ (.int .i8 x)) g n gc (ws.set k ⟨ws[k].t, x, ws[k].b⟩) := by
  have hs := h.small ws[k] (List.getElem_mem hk)
  refine ⟨by rw [List.length_set, h.len], ?_, h.b.setCell h.lt.1 _, small_set h.small ⟨hs.1, hx, hs.2.2⟩⟩
  rw [← flat_f ws k hk x]
  exact (h.own.stored _ _).1
theorem WrS.by_ {u0 u : World} {g n gc : Nat} {ws : List Fa} (h : WrS u0 u g n gc ws) (k : Nat) (hk : k < ws.length) (x : Int) (hx : -1 ≤ x ∧ x < 200) : WrS u0 (u.setCell ⟨g, k * 3 + 2, none⟩ (.int .i64 x)) g n gc (ws.set k ⟨ws[k].t, ws[k].f, x⟩) := by
  have hs := h.small ws[k] (List.getElem_mem hk)
  refine ⟨by rw [List.length_set, h.len], ?_, h.b.setCell h.lt.1 _, small_set h.small ⟨hs.1, hs.2.1, hx⟩⟩
  rw [← flat_b ws k hk x]
  exact (h.own.stored _ _).1
theorem WrS.drew {u0 u : World} {g n gc : Nat} {ws : List Fa} (h : WrS u0 u g n gc ws) (m : Nat) : WrS u0 (u.drewN m) g n gc ws :=
  ⟨h.len, own_kept (row := none) h.own ⟨rfl, rfl, rfl, Nat.le_refl _, fun _ _ _ => rfl⟩ (fun q hq => by simp), bl_drewN h.b, h.small⟩
theorem WrS.cells {u0 u : World} {g n gc : Nat} {ws : List Fa} (h : WrS u0 u g n gc ws) (k : Nat) (hk : k < ws.length) :
    u.cell? ⟨g, k * 3, none⟩ = some (.int .i64 ws[k].t) ∧ u.cell? ⟨g, k * 3 + 1, none⟩ = some (.int .i8 ws[k].f) ∧ u.cell? ⟨g, k * 3 + 2, none⟩ = some (.int .i64 ws[k].b) ∧ u.frozen? ⟨g, k * 3, none⟩ = false ∧ u.frozen? ⟨g, k * 3 + 1, none⟩ = false ∧ u.frozen? ⟨g, k * 3 + 2, none⟩ = false := by
  have hl := h.len
  refine ⟨?_, ?_, ?_, h.own.frozenAt _, h.own.frozenAt _, h.own.frozenAt _⟩
  · rw [h.own.cellAt (k * 3) (by omega)]
    exact flat_get Fa.len ws k 0 hk (by omega)
  · rw [h.own.cellAt (k * 3 + 1) (by omega)]
    exact flat_get Fa.len ws k 1 hk (by omega)
  · rw [h.own.cellAt (k * 3 + 2) (by omega)]
    exact flat_get Fa.len ws k 2 hk (by omega)
theorem WrS.drew1 {u0 u : World} {g n gc : Nat} {ws : List Fa} (h : WrS u0 u g n gc ws) : WrS u0 u.drew g n gc ws :=
  ⟨h.len, own_kept (row := none) h.own ⟨rfl, rfl, rfl, Nat.le_refl _, fun _ _ _ => rfl⟩ (fun q hq => by simp), bl_drew h.b, h.small⟩
theorem ext_v {w w' : World} (h : Below w.heap.size w w') : Below w.heap.size w w' ∧ ∀ b o, b < w.heap.size → w'.cell? ⟨b, o, none⟩ = w.cell? ⟨b, o, none⟩ := ⟨h, (bcell h).1⟩
theorem sv_take {α : Type} {f : α → List Value} {w : World} {a : Option Addr} {n cap k : Nat} {xs : List α} (h : SV f w (.slice a n cap) xs) (hk : k ≤ xs.length) : SV f w (.slice a k cap) (xs.take k) := by
  obtain ⟨a', c', h1, h2⟩ := h
  simp only [Value.slice.injEq] at h1
  obtain ⟨rfl, -, rfl⟩ := h1
  refine ⟨a, cap, by rw [List.length_take, Nat.min_eq_left hk], ?_⟩
  intro j hj
  have e : flat f xs = flat f (xs.take k) ++ flat f (xs.drop k) := by rw [← flat_append, List.take_append_drop]
  have hj2 : j < (flat f xs).length := by rw [e, List.length_append]; omega
  obtain ⟨b, off, h3, h4, h5⟩ := h2 j hj2
  refine ⟨b, off, h3, h4, ?_⟩
  rw [h5]
  congr 1
  have e2 : (flat f xs)[j]? = (flat f (xs.take k))[j]? := by rw [e, List.getElem?_append_left hj]
  rw [List.getElem?_eq_getElem hj2, List.getElem?_eq_getElem hj] at e2
  exact Option.some.inj e2
theorem sv_sl {α : Type} {f : α → List Value} {w : World} {a : Option Addr} {n cap : Nat} {xs : List α} (h : SV f w (.slice a n cap) xs) : SlAt w.heap.size w a (flat f xs) := by
  obtain ⟨a', c', h1, h2⟩ := h
  simp only [Value.slice.injEq] at h1
  obtain ⟨rfl, -, rfl⟩ := h1
  exact h2
theorem sl_news {w w' : World} {b off : Nat} {xs : List Value} (h : SlAt w.heap.size w (some ⟨b, off, none⟩) xs) (hb : Below w.heap.size w w') : ∀ j u, xs[j]? = some u → w'.cell? ((⟨b, off, none⟩ : Addr).add j) = some u := by
  intro j u hu
  have hj : j < xs.length := (List.getElem?_eq_some_iff.1 hu).1
  obtain ⟨b', off', h0, -, h3⟩ := h.below hb (Nat.le_refl _) j hj
  cases h0
  rw [List.getElem?_eq_getElem hj] at hu
  cases hu
  have : (⟨b, off, none⟩ : Addr).add j = ⟨b, off + j, none⟩ := by unfold Addr.add; split <;> simp_all
  rw [this]; exact h3
/-- What the law has drawn, and the falls that follow. -/
structure PfS (W w : World) (bx : Nat) (wd hg : Int) (s : Value) (ps : List Pc) (vq : Value) (qs : List Pu) (vf : Value) (fs : List Fa) (a1 : Option Addr) (more : List Int) : Prop where
  b : Below W.heap.size W w
  x : Bx3 w bx (.int .i8 wd) (.int .i8 hg) s
  p : PV w s ps
  q : SV Pu.cells w vq qs
  f : SV Fa.cells w vf fs
  m : SlAt w.heap.size w a1 (flat U8c more)
theorem PfS.step {W w w' : World} {bx : Nat} {wd hg : Int} {s : Value} {ps : List Pc} {vq : Value} {qs : List Pu} {vf : Value} {fs : List Fa} {a1 : Option Addr} {more : List Int} (h : PfS W w bx wd hg s ps vq qs vf fs a1 more) (hb : Below w.heap.size w w') : PfS W w' bx wd hg s ps vq qs vf fs a1 more :=
  ⟨bl_trans h.b hb, h.x.step hb, h.p.step hb, h.q.step hb, h.f.step hb, (h.m.below hb (Nat.le_refl _)).mono hb.size⟩
def fwV (l : Bd) (pl : List Pu) (ws : List Fa) : Int := if firstWrong l.ps pl ws < 0 then 0 else firstWrong l.ps pl ws
def fwC (l : Bd) (pl : List Pu) (ws : List Fa) : Int := if firstWrong l.ps pl ws < 0 then 6 else 0
theorem small_vals (l : Bd) (pl : List Pu) (hg : (vBd l && vPus l pl) = true) (ws : List Fa) (hs : ∀ f ∈ ws, smallFa f) : cfVal l pl ws = decide (firstWrong l.ps pl ws < 0) ∧ givenV l pl ws = 0 ∧ fwCode l pl ws = fwC l pl ws ∧ fwVal l pl ws = fwV l pl ws := by
  have h : ((vBd l && vPus l pl) && vFas ws) = true := by rw [hg, (small_v hs).1]; rfl
  obtain ⟨h1, h2, h3⟩ := gv_fw l pl ws h
  exact ⟨h3, gv_0 l pl ws h, h1, h2⟩
theorem own_pos {w : World} {base : Nat} {e : TypeId} {size n : Nat} {v : Value} {xs : List Value} (h : w.ownsRow base e size v n xs) (hn : 0 < n) : ∃ g cap, v = .slice (some ⟨g, 0, none⟩) n cap ∧ base ≤ g := by
  rcases h.2 with ⟨-, h0⟩ | ⟨g, cap3, cur, hve, hg, -⟩
  · omega
  · exact ⟨g, cap3, hve, hg⟩
end Go.Proofs.YtmeefmoblkiebaaGreat
/- Contracts: equal lists of numbers, a number in a list (the laws' helpers). -/
namespace Go.Proofs.YtmeefmoblkiebaaGreat
open Go.RowKit
set_option linter.unusedVariables false
set_option linter.unusedSimpArgs false
set_option maxHeartbeats 400000
set_option maxRecDepth 100000
theorem l00Same_any {B : Nat} (a a' : Option Addr) (cap cap' : Nat) (ps qs : List Int) (w : World) (hps : SlAt B w a (flat N64_cells ps)) (hqs : SlAt B w a' (flat N64_cells qs)) (hB : B ≤ w.heap.size) (hn : ps.length ≤ 10000000) (hn' : qs.length ≤ 10000000) :
    Calls Tryz.prog 60 #[.slice a ps.length cap, .slice a' qs.length cap'] w fun e w' => e = .returned (.bool (decide (ps = qs))) ∧ Below w.heap.size w w' := by
  by_cases hl : ps.length = qs.length
  · have hl2 : ((ps.length : Int) != (qs.length : Int)) = false := by simp [hl]
    have Hl := Lib.hid hl; clear hl
    go_enter Tryz.func60, Tryz.ntmps60
    go_wp2
    go_loopw [5] (fun i wr => ∃ k : Nat, k ≤ ps.length ∧ i = .int .i64 k ∧ ps.take k = qs.take k ∧ Below w.heap.size w wr) (fun i _ => ps.length - (intOf i).toNat)
    case atStart => exact ⟨0, by omega, rfl, by simp, Below.refl _ _⟩
    case round =>
      obtain ⟨k, hk, rfl, heq, hb⟩ := hrel
      have Heq := Lib.hid heq; clear heq
      by_cases hlt : k < ps.length
      · have hlt' : k < qs.length := by rw [← Hl.out]; exact hlt
        obtain ⟨b, off, rfl, hbl, hat⟩ := n64s_get (hps.below hb hB) hlt
        obtain ⟨b', off', rfl, hbl', hat'⟩ := n64s_get (hqs.below hb hB) hlt'
        unfold N64At at hat hat'
        rw [Nat.mul_one] at hat hat'
        cases g3 : (ps[k] != qs[k]) with
        | false =>
          have G2 : Hid (ps[k] = qs[k]) := Lib.hid (by simpa using g3)
          go_wp2_with fail
          go_quiet (fail)
          go_wp2
          go_roundw
          case rel => exact ⟨k + 1, by omega, by go_num, by rw [List.take_succ_eq_append_getElem hlt, List.take_succ_eq_append_getElem hlt', Heq.out, G2.out], (by repeat (first | with_reducible exact Below.refl _ _ | with_reducible assumption | with_reducible apply bl_drewN | with_reducible apply bl_drew | with_reducible apply bl_alloc | (with_reducible refine bl_set ?_ (by first | (simp; done) | (simp; omega)) _) | with_reducible refine bl_trans ?_ (by with_reducible assumption)))⟩
          case measure => simp [intOf]; omega
        | true =>
          have G2 : Hid (ps ≠ qs) := Lib.hid (by
            intro h
            subst h
            simp at g3)
          go_wp2_with fail
          go_quiet (fail)
          go_wp2
          go_ret
          have hne := G2.out
          exact ⟨by simp [hne], (by repeat (first | with_reducible exact Below.refl _ _ | with_reducible assumption | with_reducible apply bl_drewN | with_reducible apply bl_drew | with_reducible apply bl_alloc | (with_reducible refine bl_set ?_ (by first | (simp; done) | (simp; omega)) _) | with_reducible refine bl_trans ?_ (by with_reducible assumption)))⟩
      · go_wp2
        go_ret
        have hne : ps = qs := by
          have := Heq.out
          rwa [List.take_of_length_le (by omega), List.take_of_length_le (by have := Hl.out; omega)] at this
        exact ⟨by simp [hne], (by repeat (first | with_reducible exact Below.refl _ _ | with_reducible assumption | with_reducible apply bl_drewN | with_reducible apply bl_drew | with_reducible apply bl_alloc | (with_reducible refine bl_set ?_ (by first | (simp; done) | (simp; omega)) _) | with_reducible refine bl_trans ?_ (by with_reducible assumption)))⟩
  · have hl2 : ((ps.length : Int) != (qs.length : Int)) = true := by simp; omega
    have Hl := Lib.hid hl; clear hl
    go_enter Tryz.func60, Tryz.ntmps60
    go_wp2
    go_ret
    have hne : ps ≠ qs := fun h => Hl.out (by rw [h])
    exact ⟨by simp [hne], (by repeat (first | with_reducible exact Below.refl _ _ | with_reducible assumption | with_reducible apply bl_drewN | with_reducible apply bl_drew | with_reducible apply bl_alloc | (with_reducible refine bl_set ?_ (by first | (simp; done) | (simp; omega)) _) | with_reducible refine bl_trans ?_ (by with_reducible assumption)))⟩
theorem a2Same_any (v v' : Value) (ps qs : List Int) (w : World) (h : ∃ a cap, v = .slice a ps.length cap ∧ SlAt w.heap.size w a (flat N64_cells ps)) (h' : ∃ a cap, v' = .slice a qs.length cap ∧ SlAt w.heap.size w a (flat N64_cells qs)) (hn : ps.length ≤ 10000000) (hn' : qs.length ≤ 10000000) :
    Calls Tryz.prog 17 #[v, v'] w fun e w' => e = .returned (.bool (decide (ps = qs))) ∧ Below w.heap.size w w' := by
  obtain ⟨a, cap, rfl, hs⟩ := h
  obtain ⟨a', cap', rfl, hs'⟩ := h'
  go_enter Tryz.func17, Tryz.ntmps17
  go_wp2_with fail
  refine (l00Same_any a a' cap cap' ps qs w hs hs' (Nat.le_refl _) hn hn').mono ?_
  rintro e w1 ⟨rfl, hb⟩
  go_wp2
  go_ret
  exact ⟨rfl, hb⟩
theorem l07Has_any {B : Nat} (a : Option Addr) (cap : Nat) (ps : List Int) (n : Int) (w : World) (hps : SlAt B w a (flat N64_cells ps)) (hn : ps.length ≤ 10000000) :
    Calls Tryz.prog 61 #[.slice a ps.length cap, .int .i64 n] w fun e w' => e = .returned (.bool (decide (n ∈ ps))) ∧ w = w' := by
  go_enter Tryz.func61, Tryz.ntmps61
  go_wp2
  go_loopw [5] (fun i wr => ∃ k : Nat, k ≤ ps.length ∧ i = .int .i64 k ∧ Hid (n ∉ ps.take k) ∧ wr = w) (fun i _ => ps.length - (intOf i).toNat)
  case atStart => exact ⟨0, by omega, rfl, Lib.hid (by simp), rfl⟩
  case round =>
    obtain ⟨k, hk, rfl, hni, rfl⟩ := hrel
    by_cases hlt : k < ps.length
    · obtain ⟨b, off, rfl, hbl, hat⟩ := n64s_get hps hlt
      unfold N64At at hat
      rw [Nat.mul_one] at hat
      obtain ⟨x, hx⟩ : ∃ x, x = ps[k] := ⟨_, rfl⟩
      rw [← hx] at hat
      cases g3 : (x == n) with
      | true =>
        have G : Hid (decide (n ∈ ps) = true) := Lib.hid (by
          have e : x = n := by simpa using g3
          rw [decide_eq_true_eq, ← e, hx]
          exact List.getElem_mem hlt)
        clear hx
        go_wp2
        go_ret
        exact ⟨by rw [G.out]; rfl, rfl⟩
      | false =>
        have G : Hid (n ∉ ps.take (k + 1)) := Lib.hid (by
          have e : ¬ x = n := by simpa using g3
          rw [List.take_succ_eq_append_getElem hlt, List.mem_append, List.mem_singleton]
          rintro (h | h)
          · exact hni.out h
          · exact e (by rw [hx]; exact h.symm))
        clear hx hni
        go_wp2
        go_roundw
        case rel => exact ⟨k + 1, by omega, by go_num, G, trivial⟩
        case measure => simp [intOf]; omega
    · have G : Hid (decide (n ∈ ps) = false) := Lib.hid (by
        have := hni.out
        rw [List.take_of_length_le (by omega)] at this
        exact decide_eq_false this)
      clear hni
      go_wp2
      go_ret
      exact ⟨by rw [G.out]; rfl, rfl⟩
theorem a2Has_any (v : Value) (ps : List Int) (n : Int) (w : World) (h : ∃ a cap, v = .slice a ps.length cap ∧ ∃ B, SlAt B w a (flat N64_cells ps)) (hn : ps.length ≤ 10000000) :
    Calls Tryz.prog 18 #[v, .int .i64 n] w fun e w' => e = .returned (.bool (decide (n ∈ ps))) ∧ w = w' := by
  obtain ⟨a, cap, rfl, B, hs⟩ := h
  go_enter Tryz.func18, Tryz.ntmps18
  go_wp2_with fail
  refine (l07Has_any a cap ps n w hs hn).mono ?_
  rintro e w1 ⟨rfl, rfl⟩
  go_wp2
  go_ret
  exact ⟨rfl, rfl⟩
end Go.Proofs.YtmeefmoblkiebaaGreat
/- Contracts: FallOrder (the program). -/
namespace Go.Proofs.YtmeefmoblkiebaaGreat
open Go.RowKit Go.Sort Go.Shelf
set_option linter.unusedVariables false
set_option linter.unusedSimpArgs false
set_option maxHeartbeats 400000
set_option maxRecDepth 100000
def foV (fs : List Fa) (x y : Int) : Int := orI [cmpI (tki fs x) (tki fs y), cmpI x y]
theorem foV_lt (fs : List Fa) (x y : Int) : foV fs x y < 0 ↔ ltI fs x y := by
  unfold foV orI orI orI cmpI ltI
  repeat' split
  all_goals omega
theorem cmpNaN64_any (a : Int) (w : World) : Calls Tryz.prog 110 #[.int .i64 a] w fun e w' => e = .returned (.bool false) ∧ w = w' := by
  go_enter Tryz.func110, Tryz.ntmps110
  go_wp2
  exact bodyPost_ret (v := .bool false) (by simp [results, Tryz.results110, go_sem]) rfl ⟨rfl, rfl⟩
theorem compare64_any (a b : Int) (w : World) : Calls Tryz.prog 53 #[.int .i64 a, .int .i64 b] w fun e w' => e = .returned (.int .i64 (cmpI a b)) ∧ w = w' := by
  have HV := Lib.hid (show (a < b → cmpI a b = -1) ∧ (¬ a < b → b < a → cmpI a b = 1) ∧ (¬ a < b → ¬ b < a → cmpI a b = 0) from ⟨fun h => if_pos h, fun h h2 => by unfold cmpI; rw [if_neg h, if_pos h2], fun h h2 => by unfold cmpI; rw [if_neg h, if_neg h2]⟩)
  generalize cmpI a b = r at HV ⊢
  by_cases h1 : a < b
  · have H := HV.out.1 h1
    subst H
    go_enter Tryz.func53, Tryz.ntmps53
    go_wp2_with (go_at_call 110; refine (cmpNaN64_any _ _).mono ?_; rintro e w' ⟨rfl, rfl⟩)
    go_ret
    exact ⟨rfl, rfl⟩
  · by_cases h2 : b < a
    · have H := HV.out.2.1 h1 h2
      subst H
      go_enter Tryz.func53, Tryz.ntmps53
      go_wp2_with (go_at_call 110; refine (cmpNaN64_any _ _).mono ?_; rintro e w' ⟨rfl, rfl⟩)
      go_ret
      exact ⟨rfl, rfl⟩
    · have H := HV.out.2.2 h1 h2
      subst H
      go_enter Tryz.func53, Tryz.ntmps53
      go_wp2_with (go_at_call 110; refine (cmpNaN64_any _ _).mono ?_; rintro e w' ⟨rfl, rfl⟩)
      go_ret
      exact ⟨rfl, rfl⟩
theorem eg_fo1 (args : Array Value) (w : World) : (callFunc 49 args).run Tryz.prog w = .ok (.enter 49 args) w := by kernel_rfl
theorem fo1_any (F : Fa) (w : World) : Calls Tryz.prog 49 #[F.val] w fun e w' => e = .returned (.bool (F.t != -1)) ∧ Below w.heap.size w w' := by
  go_enter Tryz.func49, Tryz.ntmps49
  go_wp2
  go_ret
  exact ⟨rfl, (by repeat (first | with_reducible exact Below.refl _ _ | with_reducible assumption | with_reducible apply bl_drewN | with_reducible apply bl_drew | with_reducible apply bl_alloc | (with_reducible refine bl_set ?_ (by first | (simp; done) | (simp; omega)) _) | with_reducible refine bl_trans ?_ (by with_reducible assumption)))⟩
theorem eg_fo2 (args : Array Value) (w : World) : (callFunc 51 args).run Tryz.prog w = .ok (.enter 51 args) w := by kernel_rfl
set_option maxHeartbeats 1600000 in
theorem fo2_any (fs : List Fa) (b off cap bo x y : Nat) (w : World) (hx : x < fs.length) (hy : y < fs.length) (hbo : bo < w.heap.size) (hbl : b < w.heap.size) (hc : w.cell? ⟨bo, 0, none⟩ = some (.slice (some ⟨b, off, none⟩) fs.length cap)) (hcx : w.cell? ⟨b, off + x * 3, none⟩ = some (.int .i64 fs[x].t)) (hcy : w.cell? ⟨b, off + y * 3, none⟩ = some (.int .i64 fs[y].t)) :
    Calls Tryz.prog 51 #[.int .i64 x, .int .i64 y, .pointer (some ⟨bo, 0, none⟩)] w fun e w' => e = .returned (.int .i64 (foV fs x y)) ∧ w' = (w.alloc (.cells #[.int .i64 (cmpI (tki fs x) (tki fs y)), .int .i64 (cmpI x y)] 3)).drew := by
  have HV := Lib.hid (show foV fs x y = orI [cmpI (tki fs x) (tki fs y), cmpI x y] from rfl)
  have e1 := tki_at fs x hx
  have e2 := tki_at fs y hy
  rw [← e1] at hcx
  rw [← e2] at hcy
  clear e1 e2
  generalize foV fs x y = r at HV ⊢
  generalize tki fs (x : Int) = tx at *
  generalize tki fs (y : Int) = ty at *
  have hxI : (x : Int) < fs.length := by omega
  have hyI : (y : Int) < fs.length := by omega
  have HC := Lib.hid (fun x y w' => compare64_any x y w')
  have HO := Lib.hid (fun (c1 c2 : Int) (w' : World) (g : Nat) (hh : w'.heap[g]? = some (.cells #[.int .i64 c1, .int .i64 c2] 3 (0, 0))) => (show Calls Tryz.prog 52 #[.slice (some ⟨g, 0, none⟩) 2 2] w' (fun e w'' => e = .returned (.int .i64 (orI [c1, c2])) ∧ w' = w'') from or_any (B := w'.heap.size) (some ⟨g, 0, none⟩) 2 [c1, c2] w' (by
    intro j hj
    have hj4 : j < 2 := hj
    refine ⟨g, 0, rfl, (Array.getElem?_eq_some_iff.1 hh).1, ?_⟩
    rw [cell_of_row _ _ _ _ _ _ hh, Nat.zero_add]
    have : j = 0 ∨ j = 1 := by omega
    rcases this with rfl | rfl <;> rfl) (Nat.le_refl _) (by simp)))
  obtain ⟨W, hW⟩ : ∃ W, W = w := ⟨_, rfl⟩
  rw [← hW] at hc hcx hcy hbo hbl ⊢
  clear hW
  go_enter Tryz.func51, Tryz.ntmps51
  go_upto_region 1 with fail
  go_region_held3 (fun w' => w'.cell? ⟨bo, 0, none⟩ = some (.slice (some ⟨b, off, none⟩) fs.length cap) ∧ w'.cell? ⟨b, off + x * 3, none⟩ = some (.int .i64 tx) ∧ w'.cell? ⟨b, off + y * 3, none⟩ = some (.int .i64 ty)) (go_keep) (first | (go_at_call 53; refine (HC.out _ _ _).mono ?_; rintro e w' ⟨rfl, rfl⟩) | (go_at_call 52; refine (HO.out _ _ (World.drew (W.alloc _)) W.heap.size (heap_alloc_new W _)).mono ?_; rintro e w' ⟨rfl, rfl⟩))
  go_wp2
  go_ret
  exact ⟨by rw [HV.out]; rfl, rfl⟩
/-- A place of a row, as a value. -/
def fiC {n : Nat} (x : Fin n) : Value := .int .i64 ((x.val : Nat) : Int)
theorem flat_fi {n : Nat} (d : List (Fin n)) : flat N64_cells (d.map (fun x => ((x.val : Nat) : Int))) = d.map fiC := by
  rw [flatN, List.map_map]; rfl
theorem heap_sorted1 {n : Nat} [Inhabited (Fin n)] {w : World} {g m : Nat} {os : Array Obj} {cur : Array Value} {e : TypeId} {fr : Nat × Nat} (d : Array (Fin n)) (hb : w.heap[g]? = some (.cells cur e fr)) :
    (sortWorld fiC w g 0 m d os).heap[g]? = some (.cells (putCells fiC 0 d cur) e fr) := by
  have hg : g < w.heap.size := (Array.getElem?_eq_some_iff.1 hb).1
  unfold sortWorld
  rw [heap_grow_old _ _ (by simpa [putRow, mapBlock, Sort.ahead] using hg)]
  simp [putRow, mapBlock, Sort.ahead, Array.getElem?_modify, hb, onCells]
theorem grownBy_sorted1 {n : Nat} [Inhabited (Fin n)] {w : World} {g m : Nat} {os : Array Obj} (d : Array (Fin n)) : w.grownBy (sortWorld fiC w g 0 m d os) (some g) := by
  refine ⟨rfl, rfl, rfl, by simp [sortWorld, grow, putRow, mapBlock, Sort.ahead], fun k hk hne => ?_⟩
  unfold sortWorld
  rw [heap_grow_old _ _ (by simpa [putRow, mapBlock, Sort.ahead] using hk)]
  have : g ≠ k := fun e => hne (by rw [e])
  simp [putRow, mapBlock, Sort.ahead, Array.getElem?_modify, this]
theorem take_putCells1 {n : Nat} [Inhabited (Fin n)] (cur : Array Value) (d : Array (Fin n)) (h : d.size ≤ cur.size) : (putCells fiC 0 d cur).toList.take d.size = d.toList.map fiC := by
  apply List.ext_getElem?
  intro j
  by_cases hj : j < d.size
  · rw [List.getElem?_take_of_lt hj, Array.getElem?_toList]
    simp [putCells, hj, show j < cur.size by omega]
  · rw [List.getElem?_take_eq_none (by omega), List.getElem?_eq_none (by simp; omega)]
theorem holds1_own {n : Nat} [Inhabited (Fin n)] {w : World} {g : Nat} (d : List (Fin n)) {cur : Array Value} {e : TypeId} (hb : w.heap[g]? = some (.cells cur e (0, 0))) (ht : cur.toList.take d.length = d.map fiC) : Holds fiC w g 0 d.toArray := by
  intro j hj
  have hj' : j < d.length := by simpa using hj
  refine ⟨?_, by simp [World.frozen?, hb]⟩
  have h1 : (cur.toList.take d.length)[j]? = (d.map fiC)[j]? := by rw [ht]
  rw [List.getElem?_take_of_lt hj'] at h1
  simp only [World.cell?, hb, Nat.zero_add]
  simp only [Option.isSome_none, Bool.false_eq_true, if_false]
  rw [← Array.getElem?_toList, h1, getElem!_pos _ j hj]
  simp [hj']
theorem swo_fo (fs : List Fa) : SWO (ltOf (fun (x y : Fin fs.length) => foV fs (x.val : Int) (y.val : Int))) where
  irrefl x := by unfold ltOf; rw [decide_eq_false_iff_not, foV_lt]; unfold ltI; omega
  trans x y z h1 h2 := by unfold ltOf at *; rw [decide_eq_true_eq, foV_lt] at *; unfold ltI at *; omega
  ntrans x y z h1 h2 := by unfold ltOf at *; rw [decide_eq_false_iff_not, foV_lt] at *; unfold ltI at *; omega
theorem sortFo_any {B : Nat} {w : World} {g cap : Nat} (fs : List Fa) (h0 : 0 < fs.length) (d : List (Fin fs.length)) (h : w.ownsRow B 2 1 (.slice (some ⟨g, 0, none⟩) d.length cap) d.length (flat N64_cells (d.map (fun x => ((x.val : Nat) : Int))))) (hn : d.length ≤ 100000)
    (b off capf bo : Nat) (hbo : bo < w.heap.size) (hbl : b < w.heap.size) (hbg : bo ≠ g) (hblg : b ≠ g) (hc : w.cell? ⟨bo, 0, none⟩ = some (.slice (some ⟨b, off, none⟩) fs.length capf)) (hcx : ∀ x (hx : x < fs.length), w.cell? ⟨b, off + x * 3, none⟩ = some (.int .i64 fs[x].t)) :
    Calls Tryz.prog 50 #[.slice (some ⟨g, 0, none⟩) d.length cap, .func (.func 51) #[] #[.pointer (some ⟨bo, 0, none⟩)]] w fun e w' => e = .returned (.tuple #[]) ∧ ∃ d' : List (Fin fs.length), d'.Perm d ∧ d'.Pairwise (fun x y => 0 ≤ foV fs (y.val : Int) (x.val : Int)) ∧ w'.ownsRow B 2 1 (.slice (some ⟨g, 0, none⟩) d.length cap) d'.length (flat N64_cells (d'.map (fun x => ((x.val : Nat) : Int)))) ∧ w.grownBy w' (some g) := by
  haveI : Inhabited (Fin fs.length) := ⟨⟨0, h0⟩⟩
  have hl := h.1
  rcases h.2 with ⟨e, -⟩ | ⟨g', cap', cur, e, hB, hg, h1, h2, h3, h4⟩
  · cases e
  cases e
  rw [flat_fi, Nat.mul_one] at h4
  have hC := Any.slices_SortFunc Tryz.laysSortI fiC (fun _ => rfl) (fun (x y : Fin fs.length) => foV fs (x.val : Int) (y.val : Int)) (swo_fo fs) 51 #[.pointer (some ⟨bo, 0, none⟩)] g 0 cap d.toArray w eg_fo2
    (fun m os dk hs x y => by
      have hgr : w.grownBy (sortWorld fiC w g 0 m dk os) (some g) := grownBy_sorted1 dk
      have hz := hgr.size
      refine (fo2_any fs b off capf bo x.val y.val _ x.isLt y.isLt (by omega) (by omega) (hgr.cell hc (fun e => hbg (by cases e; rfl))) (hgr.cell (hcx x.val x.isLt) (fun e => hblg (by cases e; rfl))) (hgr.cell (hcx y.val y.isLt) (fun e => hblg (by cases e; rfl)))).mono ?_
      rintro e w' ⟨rfl, rfl⟩
      exact ⟨rfl, 1, _, by rw [alloc_eq_grow]; rfl⟩)
    (holds1_own d hg h4) (Array.getElem?_eq_some_iff.1 hg).1 (by simp; omega)
  simp only [List.size_toArray] at hC
  refine Calls.mono hC ?_
  rintro e w' ⟨rfl, d', n, os, hp, hs, rfl⟩
  obtain ⟨hp1, -, hp3⟩ := hp
  simp only [List.size_toArray] at hp1
  have hd : d'.extract 0 d.length = d' := by rw [← hp1]; simp
  have hd2 : d.toArray.extract 0 d.length = d.toArray := by simp
  rw [hd, hd2] at hp3
  refine ⟨rfl, d'.toList, hp3, ?_, ?_, grownBy_sorted1 d'⟩
  · rw [List.pairwise_iff_getElem]
    intro i j hi hj hij
    have h9 := hs i j (Nat.zero_le _) hij (by rw [← hp1]; simpa using hj)
    rw [getElem!_pos d' j (by simpa using hj), getElem!_pos d' i (by simpa using hi)] at h9
    unfold ltOf at h9
    rw [decide_eq_false_iff_not] at h9
    rw [Array.getElem_toList, Array.getElem_toList]
    exact Int.not_lt.1 h9
  · have e2 : d'.toList.length = d.length := by simpa using hp1
    refine ⟨by rw [flat_fi, e2, Nat.mul_one, List.length_map]; exact e2, .inr ⟨g, cap, _, by rw [e2], hB, heap_sorted1 d' hg, by rw [e2]; exact h1, h2, by simp [putCells, h3], ?_⟩⟩
    rw [e2, flat_fi, Nat.mul_one, ← hp1]
    exact take_putCells1 cur d' (by rw [hp1, h3]; omega)
theorem idx_fin (fs : List Fa) (xs : List Int) (h : ∀ x ∈ xs, ∃ n : Nat, x = (n : Int) ∧ n < fs.length) : ∃ d : List (Fin fs.length), xs = d.map (fun x => ((x.val : Nat) : Int)) := by
  induction xs with
  | nil => exact ⟨[], rfl⟩
  | cons x xs ih =>
    obtain ⟨d, hd⟩ := ih (fun y hy => h y (List.mem_cons_of_mem _ hy))
    obtain ⟨n, hn, hlt⟩ := h x List.mem_cons_self
    exact ⟨⟨n, hlt⟩ :: d, by rw [List.map_cons, ← hd, hn]⟩
theorem idxTo_nodup (p : Fa → Bool) (fs : List Fa) (k : Nat) : (idxTo p fs k).Nodup := by
  unfold idxTo
  rw [List.Nodup, List.pairwise_map]
  refine List.Pairwise.imp ?_ ((List.nodup_range).filter _)
  intro a b hab e
  exact hab (by omega)
theorem ord_sorted (fs : List Fa) (d d' : List (Fin fs.length)) (hd : idxP fell fs = d.map (fun x => ((x.val : Nat) : Int))) (hp : d'.Perm d) (hs : d'.Pairwise (fun x y => 0 ≤ foV fs (y.val : Int) (x.val : Int))) : isOrd fs fs.length (d'.map (fun x => ((x.val : Nat) : Int))) := by
  have hpm : (d'.map (fun x => ((x.val : Nat) : Int))).Perm (idxTo fell fs fs.length) := by
    show List.Perm _ (idxP fell fs)
    rw [hd]
    exact hp.map _
  refine ⟨hpm, ?_⟩
  have hnd : (d'.map (fun x => ((x.val : Nat) : Int))).Nodup := hpm.symm.nodup (idxTo_nodup _ _ _)
  rw [List.Nodup, List.pairwise_map] at hnd
  rw [List.pairwise_map]
  refine (hs.and hnd).imp ?_
  rintro x y ⟨h1, h2⟩
  have h3 : ¬ ltI fs (y.val : Int) (x.val : Int) := by
    intro h
    have := (foV_lt fs (y.val : Int) (x.val : Int)).2 h
    omega
  unfold ltI at h3 ⊢
  omega
set_option maxHeartbeats 1600000 in
theorem fallOrder_any (wd hg : Int) (s : Value) (ps : List Pc) (v1 : Value) (pl : List Pu) (w : World) (hps : PV w s ps) (hok : (Bd.mk wd hg ps).ok) (hn : ps.length ≤ 9000000) (h1 : SV Pu.cells w v1 pl) (ok1 : PusOk pl) (n1 : pl.length ≤ 9000000) :
    Calls Tryz.prog 12 #[bdv wd hg s, v1] w fun e w' => ∃ v, e = .returned (.tuple #[v, .int .i64 (rbCode ⟨wd, hg, ps⟩ pl)]) ∧ w'.ownsRow w.heap.size 2 1 v (foList ⟨wd, hg, ps⟩ pl).length (flat N64_cells (foList ⟨wd, hg, ps⟩ pl)) ∧ Below w.heap.size w w' := by
  have HRB := Lib.hid (fun w1 (hb : Below w.heap.size w w1) => implRunBoard_any wd hg s ps v1 pl w1 (hps.step hb) hok hn (h1.step hb) ok1 n1)
  obtain ⟨a, cap, rfl, -⟩ := hps
  obtain ⟨a1, cap1, rfl, -⟩ := h1
  have HBA := Lib.hid (show Below w.heap.size w (w.alloc (.cells #[.int .i8 wd, .int .i8 hg, .slice a ps.length cap] 27)) from bl_alloc (Below.refl _ _))
  cases g1 : (vBd ⟨wd, hg, ps⟩ && vPus ⟨wd, hg, ps⟩ pl) with
  | true =>
    obtain ⟨hv, hpl, hin, hn20⟩ := ask_ok _ _ g1
    have HC0 : Hid (rbCode ⟨wd, hg, ps⟩ pl = 0) := Lib.hid (by unfold rbCode; rw [g1]; rfl)
    have HL0 : Hid (rbList ⟨wd, hg, ps⟩ pl = runOf ps pl) := Lib.hid (by unfold rbList; rw [g1]; rfl)
    have HL : Hid (foList ⟨wd, hg, ps⟩ pl = ordOf (runOf ps pl)) := Lib.hid (by unfold foList; rw [if_pos g1])
    have HN := Lib.hid (runOf_len200 ⟨wd, hg, ps⟩ pl hv)
    have HGE := Lib.hid (runOf_ge ps pl)
    rw [HC0.out, HL.out]
    rw [HC0.out, HL0.out] at HRB
    obtain ⟨fs, hfs⟩ : ∃ fs, fs = runOf ps pl := ⟨_, rfl⟩
    have hn2 : fs.length ≤ 200 := by rw [hfs]; exact HN.out
    rw [← hfs] at HRB HGE ⊢
    clear g1 HL HC0 HL0 hpl hin hv hfs HN
    go_enter Tryz.func12, Tryz.ntmps12
    go_wp2_with fail
    refine (HRB.out _ HBA.out).mono ?_
    rintro e w2 ⟨v, rfl, hown, hb2⟩
    have HB02 := Lib.hid (bl_trans HBA.out hb2)
    obtain ⟨av, capv, hve, hsl, -, -⟩ := own_at hown
    subst hve
    have HSL := Lib.hid hsl
    have hbW : Below w2.heap.size w2 (w2.alloc (.cells #[.slice av fs.length capv] 31)) := bl_alloc (Below.refl _ _)
    have HIX := Lib.hid (indices_anyP (B := w2.heap.size) 49 #[] fell av capv fs (w2.alloc (.cells #[.slice av fs.length capv] 31)) (hsl.below hbW (Nat.le_refl _)) hbW.size (by omega) eg_fo1 (fun F wx hF hbx => by
      refine (fo1_any F wx).mono ?_
      rintro e w' ⟨rfl, hb⟩
      refine ⟨?_, hb⟩
      obtain ⟨k, hk, rfl⟩ := List.getElem_of_mem hF
      have := HGE.out k hk
      exact ret_bool (by unfold fell; rw [bne_iff_ne, decide_eq_true_eq]; omega)))
    have HBW := Lib.hid hbW
    have HCB := Lib.hid (cell_new0 w2 (.slice av fs.length capv) 31 _ rfl)
    clear hown hsl hb2 HRB HGE hbW
    go_wp2_with fail
    refine HIX.out.mono ?_
    rintro e w3 ⟨v, rfl, hown3, hb3⟩
    have hb23 := bl_trans HBW.out hb3
    have hcb : w3.cell? ⟨w2.heap.size, 0, none⟩ = some (.slice av fs.length capv) := by rw [hb3.cell (p := ⟨_, _, none⟩) (by simp)]; exact HCB.out
    obtain ⟨d, hd⟩ := idx_fin fs (idxP fell fs) (fun x hx => idxTo_mem fell fs fs.length x hx)
    have hdl : d.length = (idxP fell fs).length := by rw [hd]; simp
    have hdn : d.length ≤ 200 := by rw [hdl]; exact Nat.le_trans (idxTo_len _ _ _) hn2
    have hz3 : w2.heap.size < w3.heap.size := by have := hb3.size; simp at this; omega
    rw [← hdl, hd] at hown3
    have HD := Lib.hid hd
    have HB03 := Lib.hid (bl_trans HB02.out hb23)
    clear hd hdl
    by_cases hd0 : d.length = 0
    · have hdn : d = [] := List.length_eq_zero_iff.1 hd0
      have HORD : Hid (ordOf fs = []) := Lib.hid (ordOf_eq fs [] (by
        refine ⟨?_, List.Pairwise.nil⟩
        show List.Perm [] (idxP fell fs)
        rw [HD.out, hdn]; exact List.Perm.refl _)).symm
      obtain ⟨pa, pc, rfl, -⟩ := own_at hown3
      have hs0 : Calls Tryz.prog 50 #[.slice pa d.length pc, .func (.func 51) #[] #[.pointer (some ⟨w2.heap.size, 0, none⟩)]] w3 (fun e w' => e = .returned (.tuple #[]) ∧ w' = w3) := by rw [hd0]; exact AnyF.slices_SortFunc_none Tryz.laysSortN pa pc _ w3
      have HS0 := Lib.hid hs0
      subst hdn
      have hown4 := own_mono (base := w.heap.size) hown3 (by have := HB02.out.size; simp; omega)
      have HOWN4 := Lib.hid hown4
      clear hs0 hown3 hown4 hd0
      go_wp2_with fail
      refine HS0.out.mono ?_
      rintro e w' ⟨rfl, rfl⟩
      go_wp2
      go_ret2
      exact ⟨_, rfl, by rw [HORD.out]; exact HOWN4.out, HB03.out⟩
    · obtain ⟨m, hm⟩ : ∃ m, d.length = m + 1 := ⟨d.length - 1, by omega⟩
      rw [hm] at hown3
      obtain ⟨g, capg, rfl, hgg⟩ := own_some hown3
      rw [← hm] at hown3 ⊢
      have hf0 : 0 < fs.length := by
        cases d with
        | nil => simp at hm
        | cons x d => have := x.isLt; omega
      obtain ⟨b, off, hav, hbl, -⟩ := fas_get HSL.out hf0
      subst hav
      have hcx : ∀ x (hx : x < fs.length), w3.cell? ⟨b, off + x * 3, none⟩ = some (.int .i64 fs[x].t) := by
        intro x hx
        obtain ⟨b', off', he, -, hat⟩ := fas_get HSL.out hx
        simp only [Option.some.injEq, Addr.mk.injEq, and_true] at he
        obtain ⟨rfl, rfl⟩ := he
        rw [hb23.cell (p := ⟨_, _, none⟩) hbl]
        exact hat.1
      have hz0 : w2.heap.size < (w2.alloc (.cells #[.slice (some ⟨b, off, none⟩) fs.length capv] 31)).heap.size := by simp
      have HS := Lib.hid (sortFo_any fs hf0 d hown3 (by omega) b off capv w2.heap.size (by omega) (by omega) (by omega) (by omega) hcb hcx)
      clear hcx hcb hown3 hm hd0
      go_wp2_with fail
      refine HS.out.mono ?_
      rintro e w4 ⟨rfl, d', hp, hs, hown4, hgr⟩
      have HORD : Hid (d'.map (fun x => ((x.val : Nat) : Int)) = ordOf fs) := Lib.hid (ordOf_eq fs _ (ord_sorted fs d d' HD.out hp hs))
      have hlo : d'.length = (ordOf fs).length := by rw [← HORD.out]; simp
      have hld : d'.length = d.length := hp.length_eq
      have hown5 := own_mono (base := w.heap.size) hown4 (by have := HB02.out.size; simp; omega)
      rw [HORD.out, hlo] at hown5
      have hb4 : Below w.heap.size w w4 := bl_grown HB03.out hgr (fun q hq => by cases hq; have := HB02.out.size; omega)
      clear hown4 hp hs hlo hld
      go_wp2
      go_ret2
      exact ⟨_, rfl, hown5, hb4⟩
  | false =>
    have HC0 : Hid (rbCode ⟨wd, hg, ps⟩ pl = 1) := Lib.hid (by unfold rbCode; rw [g1]; rfl)
    have HL : Hid (foList ⟨wd, hg, ps⟩ pl = []) := Lib.hid (by unfold foList; rw [g1]; rfl)
    rw [HC0.out, HL.out]
    rw [HC0.out] at HRB
    clear g1 HC0 HL
    go_enter Tryz.func12, Tryz.ntmps12
    go_wp2_with fail
    refine (HRB.out _ HBA.out).mono ?_
    rintro e w2 ⟨v, rfl, hown, hb2⟩
    obtain ⟨av, capv, hve, -⟩ := own_at hown
    subst hve
    have hb02 := bl_trans HBA.out hb2
    go_wp2
    go_ret2
    exact ⟨_, rfl, World.ownsRow_nil _ _ _ _, (by repeat (first | with_reducible exact Below.refl _ _ | with_reducible assumption | with_reducible apply bl_drewN | with_reducible apply bl_drew | with_reducible apply bl_alloc | (with_reducible refine bl_set ?_ (by first | (simp; done) | (simp; omega)) _) | with_reducible refine bl_trans ?_ (by with_reducible assumption)))⟩
end Go.Proofs.YtmeefmoblkiebaaGreat
/- Bytes out of the claim's open values. -/
namespace Go.Proofs.YtmeefmoblkiebaaGreat
open Go.RowKit
def okU8 (n : Int) : Prop := 0 ≤ n ∧ n ≤ 255
theorem conv_u8 (cs : List Value) (h : Fits [.u8] cs) : ∃ p : Int, okU8 p ∧ cs = U8c p := by
  obtain ⟨a, _, rfl, h0, h⟩ := fits_cons h
  obtain rfl := fits_nil h
  refine ⟨a, ?_, rfl⟩
  have := bounds_u8 h0
  exact ⟨by omega, by omega⟩
end Go.Proofs.YtmeefmoblkiebaaGreat
/- The walk of the law FnRuns. -/
namespace Go.Proofs.YtmeefmoblkiebaaGreat
open Go.RowKit
set_option linter.unusedVariables false
set_option linter.unusedSimpArgs false
set_option maxHeartbeats 400000
set_option maxRecDepth 100000
structure RnS (W w : World) (bx : Nat) (wd hg : Int) (s : Value) (ps : List Pc) (vq : Value) (qs : List Pu) (vf vd : Value) (fs : List Fa) (a1 : Option Addr) (more : List Int) (vs vo vm : Value) (sl ml : List Int) : Prop where
  p : PfS W w bx wd hg s ps vq qs vf fs a1 more
  d : SV Fa.cells w vd fs
  s : SV N64_cells w vs sl
  o : SV N64_cells w vo ml
  m : SV N64_cells w vm ml
theorem RnS.step {W w w' : World} {bx : Nat} {wd hg : Int} {s : Value} {ps : List Pc} {vq : Value} {qs : List Pu} {vf vd : Value} {fs : List Fa} {a1 : Option Addr} {more : List Int} {vs vo vm : Value} {sl ml : List Int} (h : RnS W w bx wd hg s ps vq qs vf vd fs a1 more vs vo vm sl ml) (hb : Below w.heap.size w w') : RnS W w' bx wd hg s ps vq qs vf vd fs a1 more vs vo vm sl ml :=
  ⟨h.p.step hb, h.d.step hb, h.s.step hb, h.o.step hb, h.m.step hb⟩
theorem fa_get {w : World} {a : Option Addr} {c n : Nat} {fs : List Fa} (h : SV Fa.cells w (.slice a n c) fs) (h0 : 0 < fs.length) : ∃ b off, a = some ⟨b, off, none⟩ ∧ b < w.heap.size ∧ n = fs.length ∧ ∀ k (hk : k < fs.length), w.cell? ⟨b, off + k * 3, none⟩ = some (.int .i64 fs[k].t) ∧ w.cell? ⟨b, off + k * 3 + 1, none⟩ = some (.int .i8 fs[k].f) ∧ w.cell? ⟨b, off + k * 3 + 2, none⟩ = some (.int .i64 fs[k].b) := by
  obtain ⟨a', c', h1, h2⟩ := h
  simp only [Value.slice.injEq] at h1
  obtain ⟨rfl, rfl, rfl⟩ := h1
  obtain ⟨b, off, rfl, hb, -⟩ := fas_get h2 h0
  refine ⟨b, off, rfl, hb, rfl, fun k hk => ?_⟩
  obtain ⟨b', off', he, -, hat⟩ := fas_get h2 hk
  cases he
  exact hat
theorem n64_all {w : World} {a : Option Addr} {c n : Nat} {xs : List Int} (h : SV N64_cells w (.slice a n c) xs) (h0 : 0 < xs.length) : ∃ b off, a = some ⟨b, off, none⟩ ∧ b < w.heap.size ∧ n = xs.length ∧ ∀ k (hk : k < xs.length), w.cell? ⟨b, off + k, none⟩ = some (.int .i64 xs[k]) := by
  obtain ⟨a', c', h1, h2⟩ := h
  simp only [Value.slice.injEq] at h1
  obtain ⟨rfl, rfl, rfl⟩ := h1
  obtain ⟨b, off, rfl, hb, -⟩ := n64s_get h2 h0
  refine ⟨b, off, rfl, hb, rfl, fun k hk => ?_⟩
  obtain ⟨b', off', he, -, hat⟩ := n64s_get h2 hk
  cases he
  unfold N64At at hat
  rwa [Nat.mul_one] at hat
theorem sv_ex {w : World} {v : Value} {xs : List Int} (h : SV N64_cells w v xs) : ∃ a cap, v = .slice a xs.length cap ∧ ∃ B, SlAt B w a (flat N64_cells xs) := by
  obtain ⟨a, cap, h1, h2⟩ := h
  exact ⟨a, cap, h1, _, h2⟩
set_option maxHeartbeats 8000000 in
set_option maxRecDepth 100000 in
theorem lawRuns_any (a : Option Addr) (cap : Nat) (code : List Int) (a1 : Option Addr) (cap1 : Nat) (more : List Int) (w : World) (h0 : SlAt w.heap.size w a (flat U8c code)) (ok0 : ∀ k (h : k < code.length), okU8 code[k]) (h1 : SlAt w.heap.size w a1 (flat U8c more)) (ok1 : ∀ k (h : k < more.length), okU8 more[k]) :
    Calls Tryz.prog 3 #[.slice a code.length cap, .slice a1 more.length cap1] w fun e w' => e = .returned (.bool true) ∧ Below w.heap.size w w' := by
  by_cases hL : (decide (3000 < code.length) || decide (3000 < more.length)) = true
  · go_enter Tryz.func3, Tryz.ntmps3
    go_wp2_with fail
    refine (a2Long_any a a1 code.length more.length cap cap1 _).mono ?_
    rintro e w' ⟨rfl, rfl⟩
    rw [hL]
    go_wp2
    go_ret
    exact ⟨rfl, Below.refl _ _⟩
  · have hL2 : (decide (3000 < code.length) || decide (3000 < more.length)) = false := by simpa using hL
    have hc1 : code.length ≤ 3000 ∧ more.length ≤ 3000 := by simp at hL2; omega
    have B0 : BytesOk code := ⟨by omega, ok0⟩
    have B1 : BytesOk more := ⟨by omega, ok1⟩
    have HL2 := Lib.hid hL2
    have H1 := Lib.hid h1
    have HB := Lib.hid (a2Board_any a cap code w h0 B0)
    clear hL hL2 ok0 ok1 h0 h1
    go_enter Tryz.func3, Tryz.ntmps3
    go_wp2_with fail
    refine (a2Long_any a a1 code.length more.length cap cap1 _).mono ?_
    rintro e w' ⟨rfl, rfl⟩
    rw [HL2.out]
    go_wp2_with fail
    refine HB.out.mono ?_
    rintro e w1 ⟨wd, hg, v, rfl, ps, hv, hok, hln, hown, hb1⟩
    obtain ⟨sa, sc, rfl, hsl, -, -⟩ := own_at hown
    have hb1' : Below w.heap.size w (w1.alloc (.cells #[.int .i8 wd, .int .i8 hg, .slice sa ps.length sc] 27)) := (by repeat (first | with_reducible exact Below.refl _ _ | with_reducible assumption | with_reducible apply bl_drewN | with_reducible apply bl_drew | with_reducible apply bl_alloc | (with_reducible refine bl_set ?_ (by first | (simp; done) | (simp; omega)) _) | with_reducible refine bl_trans ?_ (by with_reducible assumption)))
    have X1 : Hid (Bx3 (w1.alloc (.cells #[.int .i8 wd, .int .i8 hg, .slice sa ps.length sc] 27)) w1.heap.size (.int .i8 wd) (.int .i8 hg) (.slice sa ps.length sc)) := Lib.hid (Bx3.new _ _ _ _ _)
    have P1 : PV (w1.alloc (.cells #[.int .i8 wd, .int .i8 hg, .slice sa ps.length sc] 27)) (.slice sa ps.length sc) ps := ⟨sa, sc, rfl, (hsl.below (bl_alloc (Below.refl _ _)) (Nat.le_refl _)).mono (by simp)⟩
    have M1 : SlAt (w1.alloc (.cells #[.int .i8 wd, .int .i8 hg, .slice sa ps.length sc] 27)).heap.size (w1.alloc (.cells #[.int .i8 wd, .int .i8 hg, .slice sa ps.length sc] 27)) a1 (flat U8c more) := (H1.out.below hb1' (Nat.le_refl _)).mono hb1'.size
    have HQ := Lib.hid (a2Pushes_any a1 cap1 more wd hg (.slice sa ps.length sc) ps _ M1 B1 P1 hok (by omega))
    obtain ⟨bx, hbx⟩ : ∃ bx, bx = w1.heap.size := ⟨_, rfl⟩
    obtain ⟨u1, hu1⟩ : ∃ u1, u1 = (w1.alloc (.cells #[.int .i8 wd, .int .i8 hg, .slice sa ps.length sc] 27)) := ⟨_, rfl⟩
    rw [← hu1, ← hbx] at X1
    rw [← hu1] at hb1' P1 M1 HQ
    clear hown hsl hb1
    have HB1 := Lib.hid hb1'
    clear hb1'
    obtain ⟨x0, x1, x2, x3⟩ := X1.out
    go_wp2_with fail
    rw [← hu1, ← hbx]
    clear hu1 hbx
    refine HQ.out.mono ?_
    rintro e u2 ⟨vq, rfl, qs, hvq, hqok, hql, hownq, hb2⟩
    have hgood : (vBd ⟨wd, hg, ps⟩ && vPus ⟨wd, hg, ps⟩ qs) = true := by rw [hv, hvq]; rfl
    have X2 := X1.out.step hb2
    have P2 := P1.step hb2
    have S2 := own_sv hownq
    have M2 := (M1.below hb2 (Nat.le_refl _)).mono hb2.size
    have HB2 := Lib.hid (bl_trans HB1.out hb2)
    obtain ⟨qa, qc, rfl, -⟩ := own_at hownq
    have HR := Lib.hid (implRunBoard_any wd hg (.slice sa ps.length sc) ps (.slice qa qs.length qc) qs u2 P2 hok (by omega) S2 hqok (by omega))
    have PRF := Lib.hid (prf_of ⟨wd, hg, ps⟩ qs hgood)
    have ERC : rbCode ⟨wd, hg, ps⟩ qs = 0 := by unfold rbCode; rw [if_pos hgood]
    have ERL : rbList ⟨wd, hg, ps⟩ qs = runOf ps qs := by unfold rbList; rw [if_pos hgood]
    have ESL : saList ⟨wd, hg, ps⟩ qs = idxP (fun f => decide (f.t < 0)) (runOf ps qs) := by unfold saList; rw [if_pos hgood]
    have EFO : foList ⟨wd, hg, ps⟩ qs = ordOf (runOf ps qs) := by unfold foList; rw [if_pos hgood]
    have ELC : ltCode ⟨wd, hg, ps⟩ qs = (if lastF (runOf ps qs) < 0 then 6 else 0) := by unfold ltCode; rw [if_pos hgood]
    have ELV : ltVal ⟨wd, hg, ps⟩ qs = (if lastF (runOf ps qs) < 0 then 0 else lastF (runOf ps qs)) := by unfold ltVal; rw [if_pos hgood]
    have EUC : ∀ t, 0 ≤ t → t ≤ 12 → fuCode ⟨wd, hg, ps⟩ qs t = 0 := fun t h0 h1 => by unfold fuCode; rw [if_pos hgood, if_pos (by simp [inB]; omega)]
    have EUL : ∀ t, 0 ≤ t → t ≤ 12 → fuList ⟨wd, hg, ps⟩ qs t = idxP (fun f => inB f.t 0 t) (runOf ps qs) := fun t h0 h1 => by unfold fuList; rw [if_pos (EUC t h0 h1)]
    have LNK := okFa_linkD ps qs (runOf ps qs) (good_bd ⟨wd, hg, ps⟩ hv qs (ask_ok _ _ hgood).2.1) PRF.out.ok
    rw [ERC, ERL] at HR
    obtain ⟨fs, hfs⟩ : ∃ fs, fs = runOf ps qs := ⟨_, rfl⟩
    have e1 : runOf (Bd.mk wd hg ps).ps qs = fs := hfs.symm
    rw [e1] at PRF
    rw [← hfs] at HR
    simp only [← hfs] at ERL ESL EFO ELC ELV EUL LNK
    have hlen : fs.length = ps.length := PRF.out.len
    have ECC : ∀ (i : Nat) (hi : i < fs.length), caCode ⟨wd, hg, ps⟩ qs i = (if fs[i].t < 0 then 6 else 0) := by
      intro i hi
      subst hfs
      unfold caCode
      rw [if_pos hgood, if_pos (by simp [inB]; omega)]
      show (if tki (runOf ps qs) i < 0 then _ else _) = _
      rw [tki_at _ i hi]
    have ECL : ∀ (i : Nat) (hi : i < fs.length), caList ⟨wd, hg, ps⟩ qs i = (if fs[i].t < 0 then [] else (chOf fs i).reverse) := by
      intro i hi
      unfold caList
      rw [ECC i hi]
      by_cases h : fs[i].t < 0
      · rw [if_pos h, if_pos h, if_neg (by decide)]
      · rw [if_neg h, if_neg h, if_pos rfl, ← hfs]
    have HLN := Lib.hid hlen
    have hfl : fs.length ≤ 24 := by omega
    have HGOOD := Lib.hid hgood
    have ERC := Lib.hid ERC
    have ERL := Lib.hid ERL
    have ESL := Lib.hid ESL
    have EFO := Lib.hid EFO
    have ELC := Lib.hid ELC
    have ELV := Lib.hid ELV
    have EUC := Lib.hid EUC
    have EUL := Lib.hid EUL
    have ECC := Lib.hid ECC
    have ECL := Lib.hid ECL
    have LNK := Lib.hid LNK
    have SM := Lib.hid PRF.out.small
    have HPU := Lib.hid (fun (u : World) (hP : PV u (.slice sa ps.length sc) ps) (hS : SV Pu.cells u (.slice qa qs.length qc) qs) => (⟨implRunBoard_any wd hg (.slice sa ps.length sc) ps (.slice qa qs.length qc) qs u hP hok (by omega) hS hqok (by omega), specRunBoard_any wd hg (.slice sa ps.length sc) ps (.slice qa qs.length qc) qs u hP hok (by omega) hS hqok (by omega), standingAfter_any wd hg (.slice sa ps.length sc) ps (.slice qa qs.length qc) qs u hP hok (by omega) hS hqok (by omega), fallOrder_any wd hg (.slice sa ps.length sc) ps (.slice qa qs.length qc) qs u hP hok (by omega) hS hqok (by omega), specFallOrder_any wd hg (.slice sa ps.length sc) ps (.slice qa qs.length qc) qs u hP hok (by omega) hS hqok (by omega), lastTick_any wd hg (.slice sa ps.length sc) ps (.slice qa qs.length qc) qs u hP hok (by omega) hS hqok (by omega), validPushes_any wd hg (.slice sa ps.length sc) ps (.slice qa qs.length qc) qs u hP hok (by omega) hS hqok (by omega), fun i => causesOf_any wd hg (.slice sa ps.length sc) ps (.slice qa qs.length qc) qs i u hP hok (by omega) hS hqok (by omega), fun t => fallenUntil_any wd hg (.slice sa ps.length sc) ps (.slice qa qs.length qc) qs t u hP hok (by omega) hS hqok (by omega)⟩ : _ ∧ _ ∧ _ ∧ _ ∧ _ ∧ _ ∧ _ ∧ _ ∧ _))
    rw [ERC.out, ERL.out, ESL.out, EFO.out, HGOOD.out] at HPU
    have HX2 := Lib.hid X2
    clear hlen hv hvq hgood hfs e1 hb2 hownq HQ HB P1 M1 X1
    obtain ⟨x0, x1, x2, x3⟩ := X2
    go_wp2_with fail
    refine HR.out.mono ?_
    rintro e u3 ⟨vf, rfl, hownf, hb3⟩
    have S3 : PfS w u3 bx wd hg (.slice sa ps.length sc) ps (.slice qa qs.length qc) qs vf fs a1 more := ⟨bl_trans HB2.out hb3, HX2.out.step hb3, P2.step hb3, S2.step hb3, own_sv hownf, (M2.below hb3 (Nat.le_refl _)).mono hb3.size⟩
    obtain ⟨fa, fc, rfl, -⟩ := own_at hownf
    have HS := Lib.hid S3
    clear x0 x1 x2 x3 S3 hb3 hownf HR S2 P2 M2 HX2 HB2 HB1
    obtain ⟨x0, x1, x2, x3⟩ := HS.out.x
    go_wp2_with fail
    refine (HPU.out _ HS.out.p HS.out.q).2.1.mono ?_
    rintro e v4 ⟨vd, rfl, hown4, hb4⟩
    have Hd := Lib.hid (own_sv hown4)
    obtain ⟨da, dc, rfl, -⟩ := own_at hown4
    clear hown4
    have HS := Lib.hid (HS.out.step hb4)
    clear x0 x1 x2 x3 hb4
    obtain ⟨x0, x1, x2, x3⟩ := HS.out.x
    go_wp2_with fail
    refine (HPU.out _ HS.out.p HS.out.q).2.2.1.mono ?_
    rintro e v5 ⟨vt, rfl, hown5, hb5⟩
    have Ht := Lib.hid (own_sv hown5)
    obtain ⟨ta, tc, rfl, -⟩ := own_at hown5
    clear hown5
    have HS := Lib.hid (HS.out.step hb5)
    have Hd := Lib.hid (Hd.out.step hb5)
    clear x0 x1 x2 x3 hb5
    obtain ⟨x0, x1, x2, x3⟩ := HS.out.x
    go_wp2_with fail
    refine (HPU.out _ HS.out.p HS.out.q).2.2.2.1.mono ?_
    rintro e v6 ⟨vo, rfl, hown6, hb6⟩
    have Ho := Lib.hid (own_sv hown6)
    obtain ⟨oa, oc, rfl, -⟩ := own_at hown6
    clear hown6
    have HS := Lib.hid (HS.out.step hb6)
    have Hd := Lib.hid (Hd.out.step hb6)
    have Ht := Lib.hid (Ht.out.step hb6)
    clear x0 x1 x2 x3 hb6
    obtain ⟨x0, x1, x2, x3⟩ := HS.out.x
    go_wp2_with fail
    refine (HPU.out _ HS.out.p HS.out.q).2.2.2.2.1.mono ?_
    rintro e v7 ⟨vm, rfl, hown7, hb7⟩
    have Hm := Lib.hid (own_sv hown7)
    obtain ⟨ma, mc, rfl, -⟩ := own_at hown7
    clear hown7
    have HS := Lib.hid (HS.out.step hb7)
    have Hd := Lib.hid (Hd.out.step hb7)
    have Ht := Lib.hid (Ht.out.step hb7)
    have Ho := Lib.hid (Ho.out.step hb7)
    clear x0 x1 x2 x3 hb7
    obtain ⟨lv, hlv⟩ : ∃ x, x = ltVal ⟨wd, hg, ps⟩ qs := ⟨_, rfl⟩
    obtain ⟨lc, hlc⟩ : ∃ x, x = ltCode ⟨wd, hg, ps⟩ qs := ⟨_, rfl⟩
    rw [← hlv] at HPU ELV
    rw [← hlc] at HPU ELC
    clear hlv hlc
    obtain ⟨x0, x1, x2, x3⟩ := HS.out.x
    go_wp2_with fail
    refine (HPU.out _ HS.out.p HS.out.q).2.2.2.2.2.1.mono ?_
    rintro e v8 ⟨rfl, hb8⟩
    have HS := Lib.hid (HS.out.step hb8)
    have Hd := Lib.hid (Hd.out.step hb8)
    have Ht := Lib.hid (Ht.out.step hb8)
    have Ho := Lib.hid (Ho.out.step hb8)
    have Hm := Lib.hid (Hm.out.step hb8)
    clear x0 x1 x2 x3 hb8
    obtain ⟨sl, hsl⟩ : ∃ x, x = idxP (fun f => decide (f.t < 0)) fs := ⟨_, rfl⟩
    obtain ⟨ml, hml⟩ : ∃ x, x = ordOf fs := ⟨_, rfl⟩
    have HLL := Lib.hid (ord_lengths fs)
    rw [← hsl, ← hml] at HLL
    rw [← hsl] at Ht ⊢
    rw [← hml] at Ho Hm ⊢
    have HSL := Lib.hid hsl
    have HML := Lib.hid hml
    clear hsl hml
    have hsl24 : sl.length ≤ 24 := by have := HLL.out; omega
    have hml24 : ml.length ≤ 24 := by have := HLL.out; omega
    have HR8 : Hid (RnS w v8 bx wd hg (.slice sa ps.length sc) ps (.slice qa qs.length qc) qs (.slice fa fs.length fc) (.slice da fs.length dc) fs a1 more (.slice ta sl.length tc) (.slice oa ml.length oc) (.slice ma ml.length mc) sl ml) := Lib.hid ⟨HS.out, Hd.out, Ht.out, Ho.out, Hm.out⟩
    clear HS Hd Ht Ho Hm
    have HST := Lib.hid (fun u (h : RnS w u bx wd hg (.slice sa ps.length sc) ps (.slice qa qs.length qc) qs (.slice fa fs.length fc) (.slice da fs.length dc) fs a1 more (.slice ta sl.length tc) (.slice oa ml.length oc) (.slice ma ml.length mc) sl ml) => show Calls Tryz.prog 15 #[.slice fa fs.length fc, .slice da fs.length dc] u fun e w' => e = .returned (.bool true) ∧ Below u.heap.size u w' by
      obtain ⟨a1', c1', h1', h2'⟩ := h.p.f
      obtain ⟨a2', c2', h3', h4'⟩ := h.d
      simp only [Value.slice.injEq] at h1' h3'
      obtain ⟨rfl, -, rfl⟩ := h1'
      obtain ⟨rfl, -, rfl⟩ := h3'
      have := specSameFalls_any fa da fc dc fs fs u h2' h4' (Nat.le_refl _) (by omega) (by omega)
      rw [decide_eq_true rfl] at this
      exact this)
    have HSM := Lib.hid (fun u (h : RnS w u bx wd hg (.slice sa ps.length sc) ps (.slice qa qs.length qc) qs (.slice fa fs.length fc) (.slice da fs.length dc) fs a1 more (.slice ta sl.length tc) (.slice oa ml.length oc) (.slice ma ml.length mc) sl ml) => show Calls Tryz.prog 17 #[.slice oa ml.length oc, .slice ma ml.length mc] u fun e w' => e = .returned (.bool true) ∧ Below u.heap.size u w' by
      have := a2Same_any (.slice oa ml.length oc) (.slice ma ml.length mc) ml ml u h.o h.m (by omega) (by omega)
      rw [decide_eq_true rfl] at this
      exact this)
    have hne1 : ((fs.length : Int) != (ps.length : Int)) = false := by rw [HLN.out]; simp
    have hsum : ((sl.length : Int) + (ml.length : Int) != (ps.length : Int)) = false := by have := HLL.out; have := HLN.out; simp; omega
    obtain ⟨x0, x1, x2, x3⟩ := HR8.out.p.x
    go_wp2_with fail
    refine (HST.out _ HR8.out).mono ?_
    rintro e v9 ⟨rfl, hb9⟩
    have HR9 := Lib.hid (HR8.out.step hb9)
    clear x0 x1 x2 x3 hb9 HR8
    obtain ⟨x0, x1, x2, x3⟩ := HR9.out.p.x
    go_wp2_with fail
    refine (HPU.out _ HR9.out.p.p HR9.out.p.q).2.2.2.2.2.2.1.mono ?_
    rintro e v10 ⟨rfl, hb10⟩
    have HR10 := Lib.hid (HR9.out.step hb10)
    clear x0 x1 x2 x3 hb10 HR9
    obtain ⟨x0, x1, x2, x3⟩ := HR10.out.p.x
    go_wp2_with fail
    refine (HSM.out _ HR10.out).mono ?_
    rintro e v11 ⟨rfl, hb11⟩
    have HR := Lib.hid (HR10.out.step hb11)
    clear x0 x1 x2 x3 hb11 HR10 HST HSM
    obtain ⟨x0, x1, x2, x3⟩ := HR.out.p.x
    by_cases hz : ml.length = 0
    · have hz2 : ((ml.length : Int) == 0) = true := by rw [hz]; rfl
      obtain rfl : lc = 6 := by
        rw [ELC.out, if_pos]
        refine ord_none fs (fun f hf => (SM.out f hf).1.1) ?_
        rw [← HML.out]; exact hz
      clear hz
      go_wp2
      go_ret
      exact ⟨rfl, HR.out.p.b⟩
    · have hz2 : ((ml.length : Int) == 0) = false := beq_false_of_ne (by omega)
      have hm1 : 0 < ml.length := by omega
      clear hz
      obtain ⟨n, hn, hmn, hlf, hft⟩ := ord_last fs (by rw [← HML.out]; exact hm1)
      have hf1 : 0 < fs.length := by omega
      obtain rfl : lc = 0 := by rw [ELC.out, if_neg (by omega)]
      obtain ⟨ft, hfte⟩ : ∃ ft, ft = fs[n].t := ⟨_, rfl⟩
      obtain rfl : lv = ft := by rw [ELV.out, if_neg (by omega), hlf, hfte]
      obtain ⟨mb, mo, hma, hmb, -, HMC⟩ := n64_all HR.out.m hm1
      subst hma
      obtain ⟨db, do_, hda, hdb, -, HDC⟩ := fa_get HR.out.d hf1
      subst hda
      obtain ⟨j0, hj0⟩ : ∃ j0, ml.length = j0 + 1 := ⟨ml.length - 1, by omega⟩
      have hj1 : j0 < ml.length := by omega
      have hj2 : (j0 : Int) < (ml.length : Int) := by omega
      have e15 : IntKind.i64.wrap ((ml.length : Int) - 1) = (j0 : Int) := by rw [wrap_i64' _ (by omega) (by omega)]; omega
      have e16 : (ml.length : Int) - 1 = (j0 : Int) := by omega
      have c1 : v11.cell? ⟨mb, mo + j0, none⟩ = some (.int .i64 (n : Int)) := by
        rw [HMC j0 hj1, ← hmn]
        congr 3
        have h9 := HML.out
        subst h9
        congr 1
        omega
      have c2 : v11.cell? ⟨db, do_ + n * 3, none⟩ = some (.int .i64 lv) := by rw [(HDC n hn).1, hfte]
      have hn2 : (n : Int) < (fs.length : Int) := by omega
      clear hj0 hmn hlf hft hfte HMC HDC ELC ELV
      go_wp2_with fail
      clear c1 c2 x0 x1 x2 x3 hj1 hj2 e15 e16 hn hn2 hmb hdb
      go_loopw [19] (fun i wr => ∃ k : Nat, k ≤ fs.length ∧ i = .int .i64 (k : Int) ∧ RnS w wr bx wd hg (.slice sa ps.length sc) ps (.slice qa qs.length qc) qs (.slice fa fs.length fc) (.slice (some ⟨db, do_, none⟩) fs.length dc) fs a1 more (.slice ta sl.length tc) (.slice oa ml.length oc) (.slice (some ⟨mb, mo, none⟩) ml.length mc) sl ml) (fun i _ => fs.length - (intOf i).toNat)
      case atStart => exact ⟨0, by omega, rfl, HR.out⟩
      case round =>
        clear HR
        obtain ⟨k, hk, rfl, hrn⟩ := hrel
        obtain ⟨W1, hW1⟩ : ∃ W1, W1 = wr := ⟨_, rfl⟩
        subst hW1
        have HR := Lib.hid hrn
        clear hrn
        by_cases hlt : (k : Int) < (fs.length : Int)
        · have hlt' : k < fs.length := by omega
          obtain ⟨tk, htk⟩ : ∃ x, x = fs[k].t := ⟨_, rfl⟩
          obtain ⟨ff, hff⟩ : ∃ x, x = fs[k].f := ⟨_, rfl⟩
          obtain ⟨fb, hfb⟩ : ∃ x, x = fs[k].b := ⟨_, rfl⟩
          obtain ⟨d0, d1, d2⟩ : W1.cell? ⟨db, do_ + k * 3, none⟩ = some (.int .i64 tk) ∧ W1.cell? ⟨db, do_ + k * 3 + 1, none⟩ = some (.int .i8 ff) ∧ W1.cell? ⟨db, do_ + k * 3 + 2, none⟩ = some (.int .i64 fb) := by
            obtain ⟨b', o', he, -, -, H⟩ := fa_get HR.out.d hf1
            cases he
            rw [htk, hff, hfb]
            exact H k hlt'
          have HTK := Lib.hid htk
          have HHS1 : Hid (decide ((k : Int) ∈ sl) = decide (tk < 0)) := Lib.hid (by rw [HSL.out, idxP_iff _ fs k hlt', htk])
          have HHS2 : Hid (decide ((k : Int) ∈ ml) = decide (0 ≤ tk)) := Lib.hid (by rw [HML.out, ordOf_iff fs k hlt', htk])
          clear htk hff hfb
          have HX : Hid (Bx3 (W1.alloc (.cells #[.int .i64 tk, .int .i8 ff, .int .i64 fb] 43)) W1.heap.size (.int .i64 tk) (.int .i8 ff) (.int .i64 fb)) := Lib.hid (Bx3.new _ _ _ _ _)
          have HR2 := Lib.hid (HR.out.step (bl_alloc (o := .cells #[.int .i64 tk, .int .i8 ff, .int .i64 fb] 43) (Below.refl _ _)))
          obtain ⟨W2, hW2⟩ : ∃ W2, W2 = W1.alloc (.cells #[.int .i64 tk, .int .i8 ff, .int .i64 fb] 43) := ⟨_, rfl⟩
          obtain ⟨q, hq⟩ : ∃ q, q = W1.heap.size := ⟨_, rfl⟩
          rw [← hW2] at HR2
          rw [← hW2, ← hq] at HX
          rcases dec_cases (tk < 0) with ⟨g1, k1⟩ | ⟨g1, k1⟩
          · have g2 : decide (0 ≤ tk) = false := by simp; omega
            have g3 : decide (tk ≥ 0) = false := g2
            rw [g1] at HHS1
            rw [g2] at HHS2
            have HAS := Lib.hid (fun u (hb : Below W2.heap.size W2 u) (v : Value) (b : Bool) (h : (v = (.slice ta sl.length tc) ∧ b = true) ∨ (v = (.slice (some ⟨mb, mo, none⟩) ml.length mc) ∧ b = false)) => show Calls Tryz.prog 18 #[v, .int .i64 (k : Int)] u fun e w' => e = .returned (.bool b) ∧ u = w' by
              have hR := HR2.out.step hb
              rcases h with ⟨rfl, rfl⟩ | ⟨rfl, rfl⟩
              · have := a2Has_any (.slice ta sl.length tc) sl (k : Int) u (sv_ex hR.s) (by omega)
                rw [HHS1.out] at this
                exact this
              · have := a2Has_any (.slice (some ⟨mb, mo, none⟩) ml.length mc) ml (k : Int) u (sv_ex hR.m) (by omega)
                rw [HHS2.out] at this
                exact this)
            have HCA := fun u (h : RnS w u bx wd hg (.slice sa ps.length sc) ps (.slice qa qs.length qc) qs (.slice fa fs.length fc) (.slice (some ⟨db, do_, none⟩) fs.length dc) fs a1 more (.slice ta sl.length tc) (.slice oa ml.length oc) (.slice (some ⟨mb, mo, none⟩) ml.length mc) sl ml) => (HPU.out u h.p.p h.p.q).2.2.2.2.2.2.2.1 (k : Int)
            rw [ECC.out k hlt', ECL.out k hlt', ← HTK.out, if_pos k1, if_pos k1] at HCA
            have HCA := Lib.hid HCA
            go_wp2_with fail
            rw [← hW2, ← hq]
            clear hW2 hq d0 d1 d2
            obtain ⟨y0, y1, y2, y3⟩ := HX.out
            go_quiet ((go_at_call 18; exact quiet_sameR (HAS.out _ (by repeat (first | with_reducible exact Below.refl _ _ | with_reducible assumption | with_reducible apply bl_drewN | with_reducible apply bl_drew | with_reducible apply bl_alloc | (with_reducible refine bl_set ?_ (by first | (simp; done) | (simp; omega)) _) | with_reducible refine bl_trans ?_ (by with_reducible assumption))) _ _ (by first | exact .inl ⟨rfl, rfl⟩ | exact .inr ⟨rfl, rfl⟩))))
            generalize hW : World.drewN _ nq = W3
            have hb23 : Below W2.heap.size W2 W3 := by rw [← hW]; exact bl_drewN (Below.refl _ _)
            have HR3 := Lib.hid (HR2.out.step hb23)
            have HX3 := Lib.hid (HX.out.step hb23)
            clear hW hb23 y0 y1 y2 y3 HR2 HX HAS
            obtain ⟨x0, x1, x2, x3⟩ := HR3.out.p.x
            go_wp2_with fail
            refine (HCA.out _ HR3.out).mono ?_
            rintro e W4 ⟨vc, rfl, hownc, hb4⟩
            have HR4 := Lib.hid (HR3.out.step hb4)
            obtain ⟨y0, y1, y2, y3⟩ := HX3.out.step hb4
            obtain ⟨ca, cc, rfl, -⟩ := own_at hownc
            clear x0 x1 x2 x3 hb4 HR3 HX3 hownc HCA
            go_wp2_with fail
            go_roundw
            case rel => exact ⟨k + 1, by omega, by go_num, HR4.out⟩
            case measure => simp [intOf]; omega
          · have g2 : decide (0 ≤ tk) = true := by simp; omega
            have g3 : decide (tk ≥ 0) = true := g2
            rw [g1] at HHS1
            rw [g2] at HHS2
            have HAS := Lib.hid (fun u (hb : Below W2.heap.size W2 u) (v : Value) (b : Bool) (h : (v = (.slice ta sl.length tc) ∧ b = false) ∨ (v = (.slice (some ⟨mb, mo, none⟩) ml.length mc) ∧ b = true)) => show Calls Tryz.prog 18 #[v, .int .i64 (k : Int)] u fun e w' => e = .returned (.bool b) ∧ u = w' by
              have hR := HR2.out.step hb
              rcases h with ⟨rfl, rfl⟩ | ⟨rfl, rfl⟩
              · have := a2Has_any (.slice ta sl.length tc) sl (k : Int) u (sv_ex hR.s) (by omega)
                rw [HHS1.out] at this
                exact this
              · have := a2Has_any (.slice (some ⟨mb, mo, none⟩) ml.length mc) ml (k : Int) u (sv_ex hR.m) (by omega)
                rw [HHS2.out] at this
                exact this)
            have HCA := fun u (h : RnS w u bx wd hg (.slice sa ps.length sc) ps (.slice qa qs.length qc) qs (.slice fa fs.length fc) (.slice (some ⟨db, do_, none⟩) fs.length dc) fs a1 more (.slice ta sl.length tc) (.slice oa ml.length oc) (.slice (some ⟨mb, mo, none⟩) ml.length mc) sl ml) => (HPU.out u h.p.p h.p.q).2.2.2.2.2.2.2.1 (k : Int)
            rw [ECC.out k hlt', ECL.out k hlt', ← HTK.out, if_neg k1, if_neg k1] at HCA
            have HCK := Lib.hid (ca_ok ps fs LNK.out k hlt' (by rw [← HTK.out]; omega))
            obtain ⟨R, hR⟩ : ∃ R, R = (chOf fs k).reverse := ⟨_, rfl⟩
            have hRl : R.length ≤ 26 := by rw [hR, List.length_reverse]; have := chF_len fs (fs.length + 1) (k : Int); unfold chOf; omega
            rw [← hR] at HCA HCK
            have HCA := Lib.hid HCA
            clear hR
            have hr1 := HCK.out.pos
            go_wp2_with fail
            rw [← hW2, ← hq]
            clear hW2 hq d0 d1 d2
            obtain ⟨y0, y1, y2, y3⟩ := HX.out
            go_quiet ((go_at_call 18; exact quiet_sameR (HAS.out _ (by repeat (first | with_reducible exact Below.refl _ _ | with_reducible assumption | with_reducible apply bl_drewN | with_reducible apply bl_drew | with_reducible apply bl_alloc | (with_reducible refine bl_set ?_ (by first | (simp; done) | (simp; omega)) _) | with_reducible refine bl_trans ?_ (by with_reducible assumption))) _ _ (by first | exact .inl ⟨rfl, rfl⟩ | exact .inr ⟨rfl, rfl⟩))))
            generalize hW : World.drewN _ nq = W3
            have hb23 : Below W2.heap.size W2 W3 := by rw [← hW]; exact bl_drewN (Below.refl _ _)
            have HR3 := Lib.hid (HR2.out.step hb23)
            have HX3 := Lib.hid (HX.out.step hb23)
            clear hW hb23 y0 y1 y2 y3 HR2 HX HAS
            obtain ⟨x0, x1, x2, x3⟩ := HR3.out.p.x
            go_wp2_with fail
            refine (HCA.out _ HR3.out).mono ?_
            rintro e W4 ⟨vc, rfl, hownc, hb4⟩
            have HR4 := Lib.hid (HR3.out.step hb4)
            obtain ⟨y0, y1, y2, y3⟩ := HX3.out.step hb4
            have HC4 := Lib.hid (own_sv hownc)
            obtain ⟨ca, cc, rfl, -⟩ := own_at hownc
            clear x0 x1 x2 x3 hb4 HR3 HX3 hownc HCA
            obtain ⟨rb, ro, hca, -, -, HRC⟩ := n64_all HC4.out hr1
            subst hca
            obtain ⟨j0, hj0⟩ : ∃ j0, j0 = R.length - 1 := ⟨_, rfl⟩
            have hj1 : j0 < R.length := by omega
            have hj2 : (j0 : Int) < (R.length : Int) := by omega
            have e15 : IntKind.i64.wrap ((R.length : Int) - 1) = (j0 : Int) := by rw [wrap_i64' _ (by omega) (by omega)]; omega
            have e16 : (R.length : Int) - 1 = (j0 : Int) := by omega
            have hzr : ((R.length : Int) == 0) = false := beq_false_of_ne (by omega)
            have c1 : W4.cell? ⟨rb, ro + j0, none⟩ = some (.int .i64 (k : Int)) := by
              rw [HRC j0 hj1]
              congr 2
              subst hj0
              exact HCK.out.lst (by omega)
            clear hj0 HRC
            go_wp2_with fail
            clear e15 e16 c1 hj1 hj2 hzr y0 y1 y2 y3
            go_loopw [23] (fun i wi => ∃ j : Nat, j ≤ R.length ∧ i = .int .i64 (j : Int) ∧ RnS w wi bx wd hg (.slice sa ps.length sc) ps (.slice qa qs.length qc) qs (.slice fa fs.length fc) (.slice (some ⟨db, do_, none⟩) fs.length dc) fs a1 more (.slice ta sl.length tc) (.slice oa ml.length oc) (.slice (some ⟨mb, mo, none⟩) ml.length mc) sl ml ∧ SV N64_cells wi (.slice (some ⟨rb, ro, none⟩) R.length cc) R) (fun i _ => R.length - (intOf i).toNat)
            case atStart => exact ⟨0, by omega, rfl, HR4.out, HC4.out⟩
            case round =>
              clear HR4 HC4 HR
              obtain ⟨j, hj, rfl, hrn, hcv⟩ := hrel
              obtain ⟨W5, hW5⟩ : ∃ W5, W5 = wr := ⟨_, rfl⟩
              subst hW5
              have HR := Lib.hid hrn
              have HC := Lib.hid hcv
              clear hrn hcv
              by_cases hlt2 : (j : Int) < (R.length : Int)
              · have hlt2' : j < R.length := by omega
                obtain ⟨n, hn, hRn, hnt⟩ := HCK.out.ran j hlt2'
                have HDC : Hid (∀ (i : Nat) (hi : i < fs.length), W5.cell? ⟨db, do_ + i * 3, none⟩ = some (.int .i64 fs[i].t) ∧ W5.cell? ⟨db, do_ + i * 3 + 1, none⟩ = some (.int .i8 fs[i].f) ∧ W5.cell? ⟨db, do_ + i * 3 + 2, none⟩ = some (.int .i64 fs[i].b)) := Lib.hid (by
                  obtain ⟨b', o', he, -, -, H⟩ := fa_get HR.out.d hf1
                  cases he
                  exact H)
                have HRC : Hid (∀ (i : Nat) (hi : i < R.length), W5.cell? ⟨rb, ro + i, none⟩ = some (.int .i64 R[i])) := Lib.hid (by
                  obtain ⟨b', o', he, -, -, H⟩ := n64_all HC.out hr1
                  cases he
                  exact H)
                have c1 : W5.cell? ⟨rb, ro + j, none⟩ = some (.int .i64 (n : Int)) := by rw [HRC.out j hlt2', hRn]
                have hn2 : (n : Int) < (fs.length : Int) := by omega
                have hn3 : decide ((n : Int) < 0) = false := by simp
                have hn4 : decide ((n : Int) ≥ (fs.length : Int)) = false := by simp; omega
                obtain ⟨xt, hxt⟩ : ∃ x, x = fs[n].t := ⟨_, rfl⟩
                obtain ⟨xf, hxf⟩ : ∃ x, x = fs[n].f := ⟨_, rfl⟩
                obtain ⟨xb, hxb⟩ : ∃ x, x = fs[n].b := ⟨_, rfl⟩
                obtain ⟨d0, d1, d2⟩ := HDC.out n hn
                rw [← hxt] at d0
                rw [← hxf] at d1
                rw [← hxb] at d2
                have HXT := Lib.hid hxt
                have HXB := Lib.hid hxb
                have HRN := Lib.hid hRn
                have HBX6 : Hid (Bx3 (W5.alloc (.cells #[.int .i64 xt, .int .i8 xf, .int .i64 xb] 43)) W5.heap.size (.int .i64 xt) (.int .i8 xf) (.int .i64 xb)) := Lib.hid (Bx3.new _ _ _ _ _)
                have hb56 : Below W5.heap.size W5 (W5.alloc (.cells #[.int .i64 xt, .int .i8 xf, .int .i64 xb] 43)) := bl_alloc (Below.refl _ _)
                have HR6 := Lib.hid (HR.out.step hb56)
                have HC6 := Lib.hid (HC.out.step hb56)
                clear hxt hxf hxb hRn hb56 hnt
                by_cases hj0 : j = 0
                · obtain rfl : xb = -1 := by
                    obtain ⟨n', hn', hR0, hb0⟩ := HCK.out.fst hr1
                    subst hj0
                    have e : (n' : Int) = (n : Int) := by rw [← hR0, HRN.out]
                    have e2 : n' = n := by omega
                    subst e2
                    rw [HXB.out, hb0]
                  have hz0 : ((j : Int) == 0) = true := by rw [hj0]; rfl
                  clear hj0
                  go_wp2_with fail
                  go_roundw
                  case rel => exact ⟨j + 1, by omega, by go_num, HR6.out, HC6.out⟩
                  case measure => simp [intOf]; omega
                · have hz0 : ((j : Int) == 0) = false := beq_false_of_ne (by omega)
                  obtain ⟨j', rfl⟩ : ∃ j', j = j' + 1 := ⟨j - 1, by omega⟩
                  obtain ⟨n', m, hn', hm', h1', h2', h3', h4'⟩ := HCK.out.nxt j' hlt2'
                  have e2 : n' = n := by have e : (n' : Int) = (n : Int) := by rw [← h1', HRN.out]
                                         omega
                  subst e2
                  have hj'1 : j' < R.length := by omega
                  have hj'2 : (j' : Int) < (R.length : Int) := by omega
                  have e15 : IntKind.i64.wrap (((j' + 1 : Nat) : Int) - 1) = (j' : Int) := by rw [wrap_i64' _ (by omega) (by omega)]; omega
                  have e16 : ((j' + 1 : Nat) : Int) - 1 = (j' : Int) := by omega
                  have c2 : W5.cell? ⟨rb, ro + j', none⟩ = some (.int .i64 (m : Int)) := by rw [HRC.out j' hj'1, h2']
                  have hm2 : (m : Int) < (fs.length : Int) := by omega
                  obtain ⟨b0, b1, b2⟩ := HDC.out m hm'
                  obtain ⟨bt, hbt⟩ : ∃ x, x = fs[m].t := ⟨_, rfl⟩
                  obtain ⟨bf, hbf⟩ : ∃ x, x = fs[m].f := ⟨_, rfl⟩
                  obtain ⟨bb, hbb⟩ : ∃ x, x = fs[m].b := ⟨_, rfl⟩
                  rw [← hbt] at b0
                  rw [← hbf] at b1
                  rw [← hbb] at b2
                  obtain rfl : xb = (m : Int) := by rw [HXB.out, h3']
                  have hmp : m < ps.length := by have := HLN.out; omega
                  have hmp2 : (m : Int) < (ps.length : Int) := by omega
                  obtain ⟨dl, hdl⟩ : ∃ x, x = ps[m].d := ⟨_, rfl⟩
                  have hdl8 : -128 ≤ dl ∧ dl ≤ 127 := by rw [hdl]; exact (hok.2.2 m hmp).2.2.2
                  have hxe : xt = bt + dl := by rw [HXT.out, h4', hbt, hdl, List.getD_eq_getElem?_getD, List.getElem?_eq_getElem hmp]; rfl
                  obtain ⟨pa, pc, hpe, hps⟩ := HR.out.p.p
                  cases hpe
                  obtain ⟨pb, po, rfl, hpb, hpat⟩ := pcs_get hps hmp
                  obtain ⟨-, -, -, -, p4⟩ := hpat
                  rw [← hdl] at p4
                  have HXE := Lib.hid hxe
                  have hbt2 : -1 ≤ bt ∧ bt ≤ 2810 := by rw [hbt]; exact (SM.out _ (List.getElem_mem hm')).1
                  have ed : IntKind.i64.wrap dl = dl := wrap_i64' _ (by omega) (by omega)
                  have es : IntKind.i64.wrap (bt + dl) = bt + dl := wrap_i64' _ (by omega) (by omega)
                  have hne : (xt != bt + dl) = false := by rw [hxe]; simp
                  have HP4 : Hid (∀ u, Below W5.heap.size W5 u → u.cell? ⟨pb, po + m * 5 + 4, none⟩ = some (.int .i8 dl)) := Lib.hid (fun u hb => by rw [hb.cell (p := ⟨_, _, none⟩) hpb]; exact p4)
                  have HDM : Hid (∀ u, Below W5.heap.size W5 u → u.cell? ⟨db, do_ + m * 3, none⟩ = some (.int .i64 bt) ∧ u.cell? ⟨db, do_ + m * 3 + 1, none⟩ = some (.int .i8 bf) ∧ u.cell? ⟨db, do_ + m * 3 + 2, none⟩ = some (.int .i64 bb)) := Lib.hid (fun u hb => by
                    have hr := HR.out.step hb
                    obtain ⟨b', o', he, -, -, H⟩ := fa_get hr.d hf1
                    cases he
                    rw [hbt, hbf, hbb]
                    exact H m hm')
                  have HCM : Hid (∀ u, Below W5.heap.size W5 u → u.cell? ⟨rb, ro + j', none⟩ = some (.int .i64 (m : Int))) := Lib.hid (fun u hb => by
                    have hr := HC.out.step hb
                    obtain ⟨b', o', he, -, -, H⟩ := n64_all hr hr1
                    cases he
                    rw [H j' hj'1, h2'])
                  clear hbt hbf hbb hdl hxe h1' h2' h3' h4' hps p4 b0 b1 b2 c2
                  have B56 : Hid (Below W5.heap.size W5 (W5.alloc (.cells #[.int .i64 xt, .int .i8 xf, .int .i64 (m : Int)] 43))) := Lib.hid (bl_alloc (Below.refl _ _))
                  obtain ⟨W6, hW6⟩ : ∃ W6, W6 = W5.alloc (.cells #[.int .i64 xt, .int .i8 xf, .int .i64 (m : Int)] 43) := ⟨_, rfl⟩
                  obtain ⟨qx, hqx⟩ : ∃ qx, qx = W5.heap.size := ⟨_, rfl⟩
                  rw [← hW6] at HBX6 HR6 HC6 B56
                  rw [← hqx] at HBX6
                  go_upto_region 38 with fail
                  rw [← hW6, ← hqx]
                  clear hW6 hqx c1 d0 d1 d2
                  have c2 := HCM.out W6 B56.out
                  obtain ⟨b0, b1, b2⟩ := HDM.out W6 B56.out
                  have HBY7 : Hid (Bx3 (W6.alloc (.cells #[.int .i64 bt, .int .i8 bf, .int .i64 bb] 43)) W6.heap.size (.int .i64 bt) (.int .i8 bf) (.int .i64 bb)) := Lib.hid (Bx3.new _ _ _ _ _)
                  have B67 : Hid (Below W6.heap.size W6 (W6.alloc (.cells #[.int .i64 bt, .int .i8 bf, .int .i64 bb] 43))) := Lib.hid (bl_alloc (Below.refl _ _))
                  obtain ⟨W7, hW7⟩ : ∃ W7, W7 = W6.alloc (.cells #[.int .i64 bt, .int .i8 bf, .int .i64 bb] 43) := ⟨_, rfl⟩
                  obtain ⟨qy, hqy⟩ : ∃ qy, qy = W6.heap.size := ⟨_, rfl⟩
                  rw [← hW7] at HBY7 B67
                  rw [← hqy] at HBY7
                  go_wp2_with fail
                  rw [← hW7, ← hqy]
                  clear hW7 hqy c2 b0 b1 b2
                  have HR7 := Lib.hid (HR6.out.step B67.out)
                  have HC7 := Lib.hid (HC6.out.step B67.out)
                  have HBX7 := HBX6.out.step B67.out
                  have B57 := bl_trans B56.out B67.out
                  have c2 := HCM.out W7 B57
                  have p4 := HP4.out W7 B57
                  obtain ⟨z0, z1, z2, z3⟩ := HBX7
                  obtain ⟨y0, y1, y2, y3⟩ := HBY7.out
                  obtain ⟨x0, x1, x2, x3⟩ := HR7.out.p.x
                  clear HR6 HC6 HBX6 B56 B67 B57 HR HC HP4 HDM HCM HRC HDC
                  go_quiet (fail)
                  generalize hW : World.drewN _ nq = W8
                  have hb78 : Below W7.heap.size W7 W8 := by rw [← hW]; exact bl_drewN (Below.refl _ _)
                  have HR8 := Lib.hid (HR7.out.step hb78)
                  have HC8 := Lib.hid (HC7.out.step hb78)
                  clear hW hb78 x0 x1 x2 x3 y0 y1 y2 y3 z0 z1 z2 z3 c2 p4 HR7 HC7
                  go_wp2_with fail
                  go_roundw
                  case rel => exact ⟨j' + 1 + 1, by omega, by go_num, HR8.out, HC8.out⟩
                  case measure => simp [intOf]; omega
              · go_wp2_with fail
                go_roundw
                case rel => exact ⟨k + 1, by omega, by go_num, HR.out⟩
                case measure => simp [intOf]; omega
        · go_wp2_with fail
          refine (a2At_any a1 cap1 more 0 12 W1 HR.out.p.m B1 (by omega) (by omega)).mono ?_
          rintro e w' ⟨tk, rfl, t0, t1, rfl⟩
          have HFU := fun u (h : RnS w u bx wd hg (.slice sa ps.length sc) ps (.slice qa qs.length qc) qs (.slice fa fs.length fc) (.slice (some ⟨db, do_, none⟩) fs.length dc) fs a1 more (.slice ta sl.length tc) (.slice oa ml.length oc) (.slice (some ⟨mb, mo, none⟩) ml.length mc) sl ml) => (HPU.out u h.p.p h.p.q).2.2.2.2.2.2.2.2 tk
          rw [EUC.out tk t0 (by omega), EUL.out tk t0 (by omega)] at HFU
          obtain ⟨ul, hul⟩ : ∃ x, x = idxP (fun f => inB f.t 0 tk) fs := ⟨_, rfl⟩
          have hu24 : ul.length ≤ 24 := by rw [hul]; have := idxP_len (fun f => inB f.t 0 tk) fs; omega
          rw [← hul] at HFU
          have HUL := Lib.hid hul
          have HFK := Lib.hid HFU
          clear HFU hul
          obtain ⟨x0, x1, x2, x3⟩ := HR.out.p.x
          go_wp2_with fail
          refine (HFK.out _ HR.out).mono ?_
          rintro e W2 ⟨vu, rfl, hownu, hb2⟩
          have HR2 := Lib.hid (HR.out.step hb2)
          have HU2 := Lib.hid (own_sv hownu)
          obtain ⟨ua, uc, rfl, -⟩ := own_at hownu
          clear x0 x1 x2 x3 hb2 hownu HR HFK
          go_wp2_with fail
          go_loopw [29] (fun i wi => ∃ j : Nat, j ≤ fs.length ∧ i = .int .i64 (j : Int) ∧ RnS w wi bx wd hg (.slice sa ps.length sc) ps (.slice qa qs.length qc) qs (.slice fa fs.length fc) (.slice (some ⟨db, do_, none⟩) fs.length dc) fs a1 more (.slice ta sl.length tc) (.slice oa ml.length oc) (.slice (some ⟨mb, mo, none⟩) ml.length mc) sl ml ∧ SV N64_cells wi (.slice ua ul.length uc) ul) (fun i _ => fs.length - (intOf i).toNat)
          case atStart => exact ⟨0, by omega, rfl, HR2.out, HU2.out⟩
          case round =>
            clear HR2 HU2
            obtain ⟨j, hj, rfl, hrn, hcv⟩ := hrel
            obtain ⟨W5, hW5⟩ : ∃ W5, W5 = wr := ⟨_, rfl⟩
            subst hW5
            have HR := Lib.hid hrn
            have HC := Lib.hid hcv
            clear hrn hcv
            by_cases hlt2 : (j : Int) < (fs.length : Int)
            · have hlt2' : j < fs.length := by omega
              obtain ⟨xt, hxt⟩ : ∃ x, x = fs[j].t := ⟨_, rfl⟩
              have d0 : W5.cell? ⟨db, do_ + j * 3, none⟩ = some (.int .i64 xt) := by
                obtain ⟨b', o', he, -, -, H⟩ := fa_get HR.out.d hf1
                cases he
                rw [hxt]
                exact (H j hlt2').1
              have HHS : Hid (decide ((j : Int) ∈ ul) = inB xt 0 tk) := Lib.hid (by rw [HUL.out, idxP_iff _ fs j hlt2', hxt])
              clear hxt
              rcases dec_cases (0 ≤ xt) with ⟨g1, k1⟩ | ⟨g1, k1⟩
              · rcases dec_cases (xt ≤ tk) with ⟨g2, k2⟩ | ⟨g2, k2⟩
                · have g3 : decide (xt ≥ 0) = true := g1
                  have HIN : inB xt 0 tk = true := by unfold inB; simp; omega
                  rw [HIN] at HHS
                  have HAS := Lib.hid (fun u (hb : Below W5.heap.size W5 u) => show Calls Tryz.prog 18 #[.slice ua ul.length uc, .int .i64 (j : Int)] u fun e w' => e = .returned (.bool true) ∧ u = w' by
                    have hR := HC.out.step hb
                    have := a2Has_any (.slice ua ul.length uc) ul (j : Int) u (sv_ex hR) (by omega)
                    rw [HHS.out] at this
                    exact this)
                  clear HIN
                  go_wp2_with fail
                  go_quiet ((go_at_call 18; exact quiet_sameR (HAS.out _ (by repeat (first | with_reducible exact Below.refl _ _ | with_reducible assumption | with_reducible apply bl_drewN | with_reducible apply bl_drew | with_reducible apply bl_alloc | (with_reducible refine bl_set ?_ (by first | (simp; done) | (simp; omega)) _) | with_reducible refine bl_trans ?_ (by with_reducible assumption))))))
                  generalize hW : World.drewN _ nq = W8
                  have hb78 : Below W5.heap.size W5 W8 := by rw [← hW]; exact bl_drewN (Below.refl _ _)
                  have HR8 := Lib.hid (HR.out.step hb78)
                  have HC8 := Lib.hid (HC.out.step hb78)
                  clear hW hb78 d0 HR HC HAS
                  go_wp2_with fail
                  go_roundw
                  case rel => exact ⟨j + 1, by omega, by go_num, HR8.out, HC8.out⟩
                  case measure => simp [intOf]; omega
                · have g3 : decide (xt ≥ 0) = true := g1
                  have HIN : inB xt 0 tk = false := by unfold inB; simp; omega
                  rw [HIN] at HHS
                  have HAS := Lib.hid (fun u (hb : Below W5.heap.size W5 u) => show Calls Tryz.prog 18 #[.slice ua ul.length uc, .int .i64 (j : Int)] u fun e w' => e = .returned (.bool false) ∧ u = w' by
                    have hR := HC.out.step hb
                    have := a2Has_any (.slice ua ul.length uc) ul (j : Int) u (sv_ex hR) (by omega)
                    rw [HHS.out] at this
                    exact this)
                  clear HIN
                  go_wp2_with fail
                  go_quiet ((go_at_call 18; exact quiet_sameR (HAS.out _ (by repeat (first | with_reducible exact Below.refl _ _ | with_reducible assumption | with_reducible apply bl_drewN | with_reducible apply bl_drew | with_reducible apply bl_alloc | (with_reducible refine bl_set ?_ (by first | (simp; done) | (simp; omega)) _) | with_reducible refine bl_trans ?_ (by with_reducible assumption))))))
                  generalize hW : World.drewN _ nq = W8
                  have hb78 : Below W5.heap.size W5 W8 := by rw [← hW]; exact bl_drewN (Below.refl _ _)
                  have HR8 := Lib.hid (HR.out.step hb78)
                  have HC8 := Lib.hid (HC.out.step hb78)
                  clear hW hb78 d0 HR HC HAS
                  go_wp2_with fail
                  go_roundw
                  case rel => exact ⟨j + 1, by omega, by go_num, HR8.out, HC8.out⟩
                  case measure => simp [intOf]; omega
              · have g3 : decide (xt ≥ 0) = false := g1
                have HIN : inB xt 0 tk = false := by unfold inB; simp; omega
                rw [HIN] at HHS
                have HAS := Lib.hid (fun u (hb : Below W5.heap.size W5 u) => show Calls Tryz.prog 18 #[.slice ua ul.length uc, .int .i64 (j : Int)] u fun e w' => e = .returned (.bool false) ∧ u = w' by
                  have hR := HC.out.step hb
                  have := a2Has_any (.slice ua ul.length uc) ul (j : Int) u (sv_ex hR) (by omega)
                  rw [HHS.out] at this
                  exact this)
                clear HIN
                go_wp2_with fail
                go_quiet ((go_at_call 18; exact quiet_sameR (HAS.out _ (by repeat (first | with_reducible exact Below.refl _ _ | with_reducible assumption | with_reducible apply bl_drewN | with_reducible apply bl_drew | with_reducible apply bl_alloc | (with_reducible refine bl_set ?_ (by first | (simp; done) | (simp; omega)) _) | with_reducible refine bl_trans ?_ (by with_reducible assumption))))))
                generalize hW : World.drewN _ nq = W8
                have hb78 : Below W5.heap.size W5 W8 := by rw [← hW]; exact bl_drewN (Below.refl _ _)
                have HR8 := Lib.hid (HR.out.step hb78)
                have HC8 := Lib.hid (HC.out.step hb78)
                clear hW hb78 d0 HR HC HAS
                go_wp2_with fail
                go_roundw
                case rel => exact ⟨j + 1, by omega, by go_num, HR8.out, HC8.out⟩
                case measure => simp [intOf]; omega
            · go_wp2_with fail
              go_ret
              exact ⟨rfl, HR.out.p.b⟩
end Go.Proofs.YtmeefmoblkiebaaGreat
