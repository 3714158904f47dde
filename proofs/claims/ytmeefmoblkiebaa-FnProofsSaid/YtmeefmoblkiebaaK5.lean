import Derived.Test.YtmeefmoblkiebaaK4
import Derived.Deep.RegionHeld3
import Derived.Deep.CutRange
import Derived.Deep.CutBlock
import Derived.BigQuiet
/- The walk of the law FnProofs. -/
namespace Go.Proofs.Ytmeefmoblkiebaa
open Go.RowKit
set_option linter.unusedVariables false
set_option linter.unusedSimpArgs false
set_option maxHeartbeats 400000
set_option maxRecDepth 100000
theorem infoFaD : (Try.prog.info? 40).map (fun i => (i.zero, i.size, i.bytes)) = some (some (.agg #[.int .i64 0, .int .i8 0, .int .i64 0]), 3, 24) := by kernel_rfl
/-- A box with three cells. -/
def Bx3 (w : World) (b : Nat) (v0 v1 v2 : Value) : Prop := b < w.heap.size ∧ w.cell? ⟨b, 0, none⟩ = some v0 ∧ w.cell? ⟨b, 1, none⟩ = some v1 ∧ w.cell? ⟨b, 2, none⟩ = some v2
theorem Bx3.step {w w' : World} {b : Nat} {v0 v1 v2 : Value} (h : Bx3 w b v0 v1 v2) (hb : Below w.heap.size w w') : Bx3 w' b v0 v1 v2 := by
  obtain ⟨h1, h2, h3, h4⟩ := h
  refine ⟨Nat.lt_of_lt_of_le h1 hb.size, ?_, ?_, ?_⟩
  all_goals
    rw [hb.cell (p := ⟨b, _, none⟩) h1]
    assumption
theorem Bx3.new (w : World) (v0 v1 v2 : Value) (T : TypeId) : Bx3 (w.alloc (.cells #[v0, v1, v2] T)) w.heap.size v0 v1 v2 := by
  have hh := heap_alloc_new w (.cells #[v0, v1, v2] T)
  refine ⟨by simp, ?_, ?_, ?_⟩ <;> (rw [cell_of_row _ _ _ _ _ _ hh]; rfl)
theorem own_sv {α : Type} {f : α → List Value} {w : World} {base : Nat} {e : TypeId} {size : Nat} {v : Value} {xs : List α} (h : w.ownsRow base e size v xs.length (flat f xs)) : SV f w v xs := by
  obtain ⟨a, cap, rfl, hs, -⟩ := own_at h
  exact ⟨a, cap, rfl, hs⟩
theorem flat_t (fs : List Fa) : ∀ (k : Nat) (hk : k < fs.length) (x : Int), (flat Fa.cells fs).set (k * 3) (.int .i64 x) = flat Fa.cells (fs.set k ⟨x, fs[k].f, fs[k].b⟩) := by
  induction fs with
  | nil => intro k hk; simp at hk
  | cons f fs ih =>
    intro k hk x
    cases k with
    | zero => simp [flat_cons, Fa.cells]
    | succ k =>
      have := ih k (by simpa using hk) x
      rw [show (k + 1) * 3 = k * 3 + 1 + 1 + 1 by omega]
      simp only [List.set_cons_succ, flat_cons, Fa.cells, List.cons_append, List.nil_append, List.getElem_cons_succ] at this ⊢
      rw [this]
theorem flat_f (fs : List Fa) : ∀ (k : Nat) (hk : k < fs.length) (x : Int), (flat Fa.cells fs).set (k * 3 + 1) (.int .i8 x) = flat Fa.cells (fs.set k ⟨fs[k].t, x, fs[k].b⟩) := by
  induction fs with
  | nil => intro k hk; simp at hk
  | cons f fs ih =>
    intro k hk x
    cases k with
    | zero => simp [flat_cons, Fa.cells]
    | succ k =>
      have := ih k (by simpa using hk) x
      rw [show (k + 1) * 3 + 1 = k * 3 + 1 + 1 + 1 + 1 by omega]
      simp only [List.set_cons_succ, flat_cons, Fa.cells, List.cons_append, List.nil_append, List.getElem_cons_succ] at this ⊢
      rw [this]
theorem flat_b (fs : List Fa) : ∀ (k : Nat) (hk : k < fs.length) (x : Int), (flat Fa.cells fs).set (k * 3 + 2) (.int .i64 x) = flat Fa.cells (fs.set k ⟨fs[k].t, fs[k].f, x⟩) := by
  induction fs with
  | nil => intro k hk; simp at hk
  | cons f fs ih =>
    intro k hk x
    cases k with
    | zero => simp [flat_cons, Fa.cells]
    | succ k =>
      have := ih k (by simpa using hk) x
      rw [show (k + 1) * 3 + 2 = k * 3 + 2 + 1 + 1 + 1 by omega]
      simp only [List.set_cons_succ, flat_cons, Fa.cells, List.cons_append, List.nil_append, List.getElem_cons_succ] at this ⊢
      rw [this]
theorem small_set {fs : List Fa} {k : Nat} {f : Fa} (h : ∀ f ∈ fs, smallFa f) (hf : smallFa f) : ∀ x ∈ fs.set k f, smallFa x := by
  intro x hx
  rcases List.mem_or_eq_of_mem_set hx with hx | rfl
  · exact h x hx
  · exact hf
/-- A row of falls of the call's own, while it is turned. -/
structure WrS (u0 u : World) (g n gc : Nat) (ws : List Fa) : Prop where
  len : ws.length = n
  own : u.ownsRow u0.heap.size 40 3 (.slice (some ⟨g, 0, none⟩) n gc) n (flat Fa.cells ws)
  b : Below u0.heap.size u0 u
  small : ∀ f ∈ ws, smallFa f
theorem WrS.lt {u0 u : World} {g n gc : Nat} {ws : List Fa} (h : WrS u0 u g n gc ws) : u0.heap.size ≤ g ∧ g < u.heap.size := h.own.lt g rfl
theorem WrS.t {u0 u : World} {g n gc : Nat} {ws : List Fa} (h : WrS u0 u g n gc ws) (k : Nat) (hk : k < ws.length) (x : Int) (hx : -1 ≤ x ∧ x ≤ 2810) : WrS u0 (u.setCell ⟨g, k * 3, none⟩ (.int .i64 x)) g n gc (ws.set k ⟨x, ws[k].f, ws[k].b⟩) := by
  have hs := h.small ws[k] (List.getElem_mem hk)
  refine ⟨by rw [List.length_set, h.len], ?_, h.b.setCell h.lt.1 _, small_set h.small ⟨hx, hs.2⟩⟩
  rw [← flat_t ws k hk x]
  exact (h.own.stored _ _).1
theorem WrS.fb {u0 u : World} {g n gc : Nat} {ws : List Fa} (h : WrS u0 u g n gc ws) (k : Nat) (hk : k < ws.length) (x : Int) (hx : 0 ≤ x ∧ x ≤ 3) : WrS u0 (u.setCell ⟨g, k * 3 + 1, none⟩ (.int .i8 x)) g n gc (ws.set k ⟨ws[k].t, x, ws[k].b⟩) := by
  have hs := h.small ws[k] (List.getElem_mem hk)
  refine ⟨by rw [List.length_set, h.len], ?_, h.b.setCell h.lt.1 _, small_set h.small ⟨hs.1, hx, hs.2.2⟩⟩
  rw [← flat_f ws k hk x]
  exact (h.own.stored _ _).1
theorem WrS.by_ {u0 u : World} {g n gc : Nat} {ws : List Fa} (h : WrS u0 u g n gc ws) (k : Nat) (hk : k < ws.length) (x : Int) (hx : -1 ≤ x ∧ x < 200) : WrS u0 (u.setCell ⟨g, k * 3 + 2, none⟩ (.int .i64 x)) g n gc (ws.set k ⟨ws[k].t, ws[k].f, x⟩) := by
  have hs := h.small ws[k] (List.getElem_mem hk)
  refine ⟨by rw [List.length_set, h.len], ?_, h.b.setCell h.lt.1 _, small_set h.small ⟨hs.1, hs.2.1, hx⟩⟩
  rw [← flat_b ws k hk x]
  exact (h.own.stored _ _).1
theorem WrS.drew {u0 u : World} {g n gc : Nat} {ws : List Fa} (h : WrS u0 u g n gc ws) (m : Nat) : WrS u0 (u.drewN m) g n gc ws :=
  ⟨h.len, own_kept (row := none) h.own ⟨rfl, rfl, rfl, Nat.le_refl _, fun _ _ _ => rfl⟩ (fun q hq => by simp), bl_drewN h.b, h.small⟩
theorem WrS.cells {u0 u : World} {g n gc : Nat} {ws : List Fa} (h : WrS u0 u g n gc ws) (k : Nat) (hk : k < ws.length) :
    u.cell? ⟨g, k * 3, none⟩ = some (.int .i64 ws[k].t) ∧ u.cell? ⟨g, k * 3 + 1, none⟩ = some (.int .i8 ws[k].f) ∧ u.cell? ⟨g, k * 3 + 2, none⟩ = some (.int .i64 ws[k].b) ∧ u.frozen? ⟨g, k * 3, none⟩ = false ∧ u.frozen? ⟨g, k * 3 + 1, none⟩ = false ∧ u.frozen? ⟨g, k * 3 + 2, none⟩ = false := by
  have hl := h.len
  refine ⟨?_, ?_, ?_, h.own.frozenAt _, h.own.frozenAt _, h.own.frozenAt _⟩
  · rw [h.own.cellAt (k * 3) (by omega)]
    exact flat_get Fa.len ws k 0 hk (by omega)
  · rw [h.own.cellAt (k * 3 + 1) (by omega)]
    exact flat_get Fa.len ws k 1 hk (by omega)
  · rw [h.own.cellAt (k * 3 + 2) (by omega)]
    exact flat_get Fa.len ws k 2 hk (by omega)
theorem WrS.drew1 {u0 u : World} {g n gc : Nat} {ws : List Fa} (h : WrS u0 u g n gc ws) : WrS u0 u.drew g n gc ws :=
  ⟨h.len, own_kept (row := none) h.own ⟨rfl, rfl, rfl, Nat.le_refl _, fun _ _ _ => rfl⟩ (fun q hq => by simp), bl_drew h.b, h.small⟩
theorem ext_v {w w' : World} (h : Below w.heap.size w w') : Below w.heap.size w w' ∧ ∀ b o, b < w.heap.size → w'.cell? ⟨b, o, none⟩ = w.cell? ⟨b, o, none⟩ := ⟨h, (bcell h).1⟩
theorem sv_take {α : Type} {f : α → List Value} {w : World} {a : Option Addr} {n cap k : Nat} {xs : List α} (h : SV f w (.slice a n cap) xs) (hk : k ≤ xs.length) : SV f w (.slice a k cap) (xs.take k) := by
  obtain ⟨a', c', h1, h2⟩ := h
  simp only [Value.slice.injEq] at h1
  obtain ⟨rfl, -, rfl⟩ := h1
  refine ⟨a, cap, by rw [List.length_take, Nat.min_eq_left hk], ?_⟩
  intro j hj
  have e : flat f xs = flat f (xs.take k) ++ flat f (xs.drop k) := by rw [← flat_append, List.take_append_drop]
  have hj2 : j < (flat f xs).length := by rw [e, List.length_append]; omega
  obtain ⟨b, off, h3, h4, h5⟩ := h2 j hj2
  refine ⟨b, off, h3, h4, ?_⟩
  rw [h5]
  congr 1
  have e2 : (flat f xs)[j]? = (flat f (xs.take k))[j]? := by rw [e, List.getElem?_append_left hj]
  rw [List.getElem?_eq_getElem hj2, List.getElem?_eq_getElem hj] at e2
  exact Option.some.inj e2
theorem sv_sl {α : Type} {f : α → List Value} {w : World} {a : Option Addr} {n cap : Nat} {xs : List α} (h : SV f w (.slice a n cap) xs) : SlAt w.heap.size w a (flat f xs) := by
  obtain ⟨a', c', h1, h2⟩ := h
  simp only [Value.slice.injEq] at h1
  obtain ⟨rfl, -, rfl⟩ := h1
  exact h2
theorem sl_news {w w' : World} {b off : Nat} {xs : List Value} (h : SlAt w.heap.size w (some ⟨b, off, none⟩) xs) (hb : Below w.heap.size w w') : ∀ j u, xs[j]? = some u → w'.cell? ((⟨b, off, none⟩ : Addr).add j) = some u := by
  intro j u hu
  have hj : j < xs.length := (List.getElem?_eq_some_iff.1 hu).1
  obtain ⟨b', off', h0, -, h3⟩ := h.below hb (Nat.le_refl _) j hj
  cases h0
  rw [List.getElem?_eq_getElem hj] at hu
  cases hu
  have : (⟨b, off, none⟩ : Addr).add j = ⟨b, off + j, none⟩ := by unfold Addr.add; split <;> simp_all
  rw [this]; exact h3
/-- What the law has drawn, and the falls that follow. -/
structure PfS (W w : World) (bx : Nat) (wd hg : Int) (s : Value) (ps : List Pc) (vq : Value) (qs : List Pu) (vf : Value) (fs : List Fa) (a1 : Option Addr) (more : List Int) : Prop where
  b : Below W.heap.size W w
  x : Bx3 w bx (.int .i8 wd) (.int .i8 hg) s
  p : PV w s ps
  q : SV Pu.cells w vq qs
  f : SV Fa.cells w vf fs
  m : SlAt w.heap.size w a1 (flat U8c more)
theorem PfS.step {W w w' : World} {bx : Nat} {wd hg : Int} {s : Value} {ps : List Pc} {vq : Value} {qs : List Pu} {vf : Value} {fs : List Fa} {a1 : Option Addr} {more : List Int} (h : PfS W w bx wd hg s ps vq qs vf fs a1 more) (hb : Below w.heap.size w w') : PfS W w' bx wd hg s ps vq qs vf fs a1 more :=
  ⟨bl_trans h.b hb, h.x.step hb, h.p.step hb, h.q.step hb, h.f.step hb, (h.m.below hb (Nat.le_refl _)).mono hb.size⟩
def fwV (l : Bd) (pl : List Pu) (ws : List Fa) : Int := if firstWrong l.ps pl ws < 0 then 0 else firstWrong l.ps pl ws
def fwC (l : Bd) (pl : List Pu) (ws : List Fa) : Int := if firstWrong l.ps pl ws < 0 then 6 else 0
theorem small_vals (l : Bd) (pl : List Pu) (hg : (vBd l && vPus l pl) = true) (ws : List Fa) (hs : ∀ f ∈ ws, smallFa f) : cfVal l pl ws = decide (firstWrong l.ps pl ws < 0) ∧ givenV l pl ws = 0 ∧ fwCode l pl ws = fwC l pl ws ∧ fwVal l pl ws = fwV l pl ws := by
  have h : ((vBd l && vPus l pl) && vFas ws) = true := by rw [hg, (small_v hs).1]; rfl
  obtain ⟨h1, h2, h3⟩ := gv_fw l pl ws h
  exact ⟨h3, gv_0 l pl ws h, h1, h2⟩
theorem own_pos {w : World} {base : Nat} {e : TypeId} {size n : Nat} {v : Value} {xs : List Value} (h : w.ownsRow base e size v n xs) (hn : 0 < n) : ∃ g cap, v = .slice (some ⟨g, 0, none⟩) n cap ∧ base ≤ g := by
  rcases h.2 with ⟨-, h0⟩ | ⟨g, cap3, cur, hve, hg, -⟩
  · omega
  · exact ⟨g, cap3, hve, hg⟩
set_option maxHeartbeats 8000000 in
set_option maxRecDepth 100000 in
theorem lawProofs_any (a : Option Addr) (cap : Nat) (code : List Int) (a1 : Option Addr) (cap1 : Nat) (more : List Int) (w : World) (h0 : SlAt w.heap.size w a (flat U8c code)) (ok0 : ∀ k (h : k < code.length), okU8 code[k]) (h1 : SlAt w.heap.size w a1 (flat U8c more)) (ok1 : ∀ k (h : k < more.length), okU8 more[k]) :
    Calls Try.prog 3 #[.slice a code.length cap, .slice a1 more.length cap1] w fun e w' => e = .returned (.bool true) ∧ Below w.heap.size w w' := by
  by_cases hL : (decide (3000 < code.length) || decide (3000 < more.length)) = true
  · go_enter Try.func3, Try.ntmps3
    go_wp2_with fail
    refine (a2Long_any a a1 code.length more.length cap cap1 _).mono ?_
    rintro e w' ⟨rfl, rfl⟩
    rw [hL]
    go_wp2
    go_ret
    exact ⟨rfl, Below.refl _ _⟩
  · have hL2 : (decide (3000 < code.length) || decide (3000 < more.length)) = false := by simpa using hL
    have hc1 : code.length ≤ 3000 ∧ more.length ≤ 3000 := by simp at hL2; omega
    have B0 : BytesOk code := ⟨by omega, ok0⟩
    have B1 : BytesOk more := ⟨by omega, ok1⟩
    have HL2 := Lib.hid hL2
    have H1 := Lib.hid h1
    have HB := Lib.hid (a2Board_any a cap code w h0 B0)
    clear hL hL2 ok0 ok1 h0 h1
    go_enter Try.func3, Try.ntmps3
    go_wp2_with fail
    refine (a2Long_any a a1 code.length more.length cap cap1 _).mono ?_
    rintro e w' ⟨rfl, rfl⟩
    rw [HL2.out]
    go_wp2_with fail
    refine HB.out.mono ?_
    rintro e w1 ⟨wd, hg, v, rfl, ps, hv, hok, hln, hown, hb1⟩
    obtain ⟨sa, sc, rfl, hsl, -, -⟩ := own_at hown
    have hb1' : Below w.heap.size w (w1.alloc (.cells #[.int .i8 wd, .int .i8 hg, .slice sa ps.length sc] 27)) := (by repeat (first | with_reducible exact Below.refl _ _ | with_reducible assumption | with_reducible apply bl_drewN | with_reducible apply bl_drew | with_reducible apply bl_alloc | (with_reducible refine bl_set ?_ (by first | (simp; done) | (simp; omega)) _) | with_reducible refine bl_trans ?_ (by with_reducible assumption)))
    have X1 : Hid (Bx3 (w1.alloc (.cells #[.int .i8 wd, .int .i8 hg, .slice sa ps.length sc] 27)) w1.heap.size (.int .i8 wd) (.int .i8 hg) (.slice sa ps.length sc)) := Lib.hid (Bx3.new _ _ _ _ _)
    have P1 : PV (w1.alloc (.cells #[.int .i8 wd, .int .i8 hg, .slice sa ps.length sc] 27)) (.slice sa ps.length sc) ps := ⟨sa, sc, rfl, (hsl.below (bl_alloc (Below.refl _ _)) (Nat.le_refl _)).mono (by simp)⟩
    have M1 : SlAt (w1.alloc (.cells #[.int .i8 wd, .int .i8 hg, .slice sa ps.length sc] 27)).heap.size (w1.alloc (.cells #[.int .i8 wd, .int .i8 hg, .slice sa ps.length sc] 27)) a1 (flat U8c more) := (H1.out.below hb1' (Nat.le_refl _)).mono hb1'.size
    have HQ := Lib.hid (a2Pushes_any a1 cap1 more wd hg (.slice sa ps.length sc) ps _ M1 B1 P1 hok (by omega))
    obtain ⟨bx, hbx⟩ : ∃ bx, bx = w1.heap.size := ⟨_, rfl⟩
    obtain ⟨u1, hu1⟩ : ∃ u1, u1 = w1.alloc (.cells #[.int .i8 wd, .int .i8 hg, .slice sa ps.length sc] 27) := ⟨_, rfl⟩
    rw [← hu1, ← hbx] at X1
    rw [← hu1] at hb1' P1 M1 HQ
    clear hown hsl hb1
    have HB1 := Lib.hid hb1'
    clear hb1'
    obtain ⟨x0, x1, x2, x3⟩ := X1.out
    go_wp2_with fail
    rw [← hu1, ← hbx]
    clear hu1 hbx
    refine HQ.out.mono ?_
    rintro e u2 ⟨vq, rfl, qs, hvq, hqok, hql, hownq, hb2⟩
    have hgood : (vBd ⟨wd, hg, ps⟩ && vPus ⟨wd, hg, ps⟩ qs) = true := by rw [hv, hvq]; rfl
    have X2 := X1.out.step hb2
    have P2 := P1.step hb2
    have S2 := own_sv hownq
    have M2 := (M1.below hb2 (Nat.le_refl _)).mono hb2.size
    have HB2 := Lib.hid (bl_trans HB1.out hb2)
    obtain ⟨qa, qc, rfl, -⟩ := own_at hownq
    have HR := Lib.hid (specRunBoard_any wd hg (.slice sa ps.length sc) ps (.slice qa qs.length qc) qs u2 P2 hok (by omega) S2 hqok (by omega))
    have PRF := Lib.hid (prf_of ⟨wd, hg, ps⟩ qs hgood)
    have ERC : rbCode ⟨wd, hg, ps⟩ qs = 0 := by unfold rbCode; rw [if_pos hgood]
    have ERL : rbList ⟨wd, hg, ps⟩ qs = runOf ps qs := by unfold rbList; rw [if_pos hgood]
    rw [ERC, ERL] at HR
    obtain ⟨fs, hfs⟩ : ∃ fs, fs = runOf ps qs := ⟨_, rfl⟩
    have e1 : runOf (Bd.mk wd hg ps).ps qs = fs := hfs.symm
    rw [e1] at PRF
    rw [← hfs] at HR
    have HGOOD := Lib.hid hgood
    clear hv hvq hgood hfs e1 ERC ERL hb2 hownq HQ HB P1 M1 X1
    have HX2 := Lib.hid X2
    obtain ⟨x0, x1, x2, x3⟩ := X2
    go_wp2_with fail
    refine HR.out.mono ?_
    rintro e u3 ⟨vf, rfl, hownf, hb3⟩
    clear x0 x1 x2 x3
    have S3 : PfS w u3 bx wd hg (.slice sa ps.length sc) ps (.slice qa qs.length qc) qs vf fs a1 more := ⟨bl_trans HB2.out hb3, HX2.out.step hb3, P2.step hb3, S2.step hb3, own_sv hownf, (M2.below hb3 (Nat.le_refl _)).mono hb3.size⟩
    obtain ⟨fa, fc, rfl, -, hfc, -⟩ := own_at hownf
    have HS3 := Lib.hid S3
    have hlen : fs.length ≤ 24 := by have := PRF.out.len; have e : (Bd.mk wd hg ps).ps.length = ps.length := rfl; omega
    have CK := Lib.hid (fun (u : World) (h : PfS w u bx wd hg (.slice sa ps.length sc) ps (.slice qa qs.length qc) qs (.slice fa fs.length fc) fs a1 more) va ws (hv : SV Fa.cells u va ws) (hs : ∀ f ∈ ws, smallFa f) (hn : ws.length ≤ 1000) => checkFalls_any wd hg (.slice sa ps.length sc) ps (.slice qa qs.length qc) qs va ws u h.p hok (by omega) h.q hqok (by omega) hv (small_v hs).2 (by omega))
    have FK := Lib.hid (fun (u : World) (h : PfS w u bx wd hg (.slice sa ps.length sc) ps (.slice qa qs.length qc) qs (.slice fa fs.length fc) fs a1 more) va ws (hv : SV Fa.cells u va ws) (hs : ∀ f ∈ ws, smallFa f) (hn : ws.length ≤ 1000) => firstWrong_any wd hg (.slice sa ps.length sc) ps (.slice qa qs.length qc) qs va ws u h.p hok (by omega) h.q hqok (by omega) hv (small_v hs).2 (by omega))
    have GK := Lib.hid (fun (u : World) (h : PfS w u bx wd hg (.slice sa ps.length sc) ps (.slice qa qs.length qc) qs (.slice fa fs.length fc) fs a1 more) va ws (hv : SV Fa.cells u va ws) (hs : ∀ f ∈ ws, smallFa f) (hn : ws.length ≤ 1000) => specFirstWrong_any wd hg (.slice sa ps.length sc) ps (.slice qa qs.length qc) qs va ws u h.p hok (by omega) h.q hqok (by omega) hv (small_v hs).2 (by omega))
    have VK := Lib.hid (fun (ws : List Fa) (hs : ∀ f ∈ ws, smallFa f) => small_vals ⟨wd, hg, ps⟩ qs HGOOD.out ws hs)
    have SM := Lib.hid PRF.out.small
    obtain ⟨e1, e2, e3, e4⟩ := VK.out fs SM.out
    have e5 : fwC ⟨wd, hg, ps⟩ qs fs = 6 := by unfold fwC; rw [PRF.out.fine]; rfl
    have e6 : decide (firstWrong (Bd.mk wd hg ps).ps qs fs < 0) = true := by rw [PRF.out.fine]; rfl
    have CK3 := CK.out u3 HS3.out _ fs HS3.out.f SM.out (by omega)
    rw [e1, e2, e6] at CK3
    have CK3 := Lib.hid CK3
    have FK3 := Lib.hid (fun u h => FK.out u h _ fs h.f SM.out (by omega))
    rw [e3, e5] at FK3
    clear e1 e2 e3 e4 e5 e6 S3 hb3 hownf HR S2 P2 M2 HX2
    obtain ⟨x0, x1, x2, x3⟩ := HS3.out.x
    go_wp2_with fail
    refine CK3.out.mono ?_
    rintro e u4 ⟨rfl, hb4⟩
    have HS4 := Lib.hid (HS3.out.step hb4)
    clear x0 x1 x2 x3 hb4 CK3
    obtain ⟨x0, x1, x2, x3⟩ := HS4.out.x
    go_wp2_with fail
    refine (FK3.out u4 HS4.out).mono ?_
    rintro e u5 ⟨rfl, hb5⟩
    have HS5 := Lib.hid (HS4.out.step hb5)
    clear x0 x1 x2 x3 hb5 FK3 HS3 HS4
    obtain ⟨x0, x1, x2, x3⟩ := HS5.out.x
    by_cases hz : fs.length = 0
    · have hz2 : ((fs.length : Int) == 0) = true := by rw [hz]; rfl
      clear hz
      go_wp2
      go_ret
      exact ⟨rfl, HS5.out.b⟩
    · have hz2 : ((fs.length : Int) == 0) = false := beq_false_of_ne (by omega)
      have hz1 : 0 < fs.length := by omega
      clear hz
      go_wp2_with fail
      refine (a2At_any a1 cap1 more 0 (fs.length : Int) u5 HS5.out.m B1 (by omega) (by omega)).mono ?_
      rintro e w' ⟨k', rfl, k0, k1, rfl⟩
      obtain ⟨k, rfl⟩ : ∃ k : Nat, k' = (k : Int) := ⟨k'.toNat, by omega⟩
      have hk : k < fs.length := by omega
      have hk2 : (k : Int) < (fs.length : Int) := by omega
      obtain ⟨i0, hi, hi0, hi1, hi2⟩ := info_parts infoFaD
      clear hz2 k0 k1
      obtain ⟨fa', fc', hef, hfsl⟩ := HS5.out.f
      cases hef
      obtain ⟨fb, fo, rfl, -, -⟩ := hfsl 0 (by rw [flat_length Fa.len]; omega)
      have HFSL := Lib.hid hfsl
      clear hfsl
      go_wp2_with (at_builtin; go_must (refine wpList_append_sl _ rfl _ _ 31 rfl u5.heap.size 40 i0 (.agg #[.int .i64 0, .int .i8 0, .int .i64 0]) 3 24 Try.underlying31 hi hi0 hi1 hi2 rfl (by decide) _ 0 [] rfl (World.ownsRow_made u5 _ 0 (Nat.le_refl _) (by simp [maxLen]) rfl) (some ⟨fb, fo, none⟩) fs.length fc (flat Fa.cells fs) rfl (HFSL.out.below (bl_alloc (Below.refl _ _)) (Nat.le_refl _)) (flat_length Fa.len fs) (one_cells Fa.one fs) (by unfold maxLen; omega) (by omega) (by simp) ?_); intro v6 u6 hown6 hgrow6)
      rw [Nat.zero_add, List.nil_append] at hown6
      have hb6 : Below u5.heap.size u5 u6 := bl_grown (bl_alloc (Below.refl _ _)) hgrow6 (by intro k hk; have : some u5.heap.size = some k := hk; cases this; exact Nat.le_refl _)
      have HS6 := Lib.hid (HS5.out.step hb6)
      have HOWN6 := Lib.hid hown6
      have HB56 := Lib.hid hb6
      clear hown6 hgrow6 hb6
      obtain ⟨g, gc, rfl, hg6⟩ := own_pos HOWN6.out hz1
      have W6 : WrS u5 u6 g fs.length gc fs := ⟨rfl, HOWN6.out, HB56.out, SM.out⟩
      have HW6 := Lib.hid W6
      clear W6
      clear x0 x1 x2 x3
      refine (a2At_any a1 cap1 more 1 4 u6 HS6.out.m B1 (by omega) (by omega)).mono ?_
      rintro e w' ⟨c, rfl, c0, c1, rfl⟩
      go_upto_block 0 with fail
      go_cut [] from 77 (fun wx => ∃ ws, WrS u5 wx g fs.length gc ws)
      case first =>
        obtain ⟨q0, q1, q2, f0, f1, f2⟩ := HW6.out.cells k hk
        have HTK := Lib.hid (PRF.out.tick k hk)
        have HA := Lib.hid (fun w' (hb : Below u6.heap.size u6 w') (i n : Int) (hi : 0 ≤ i) (hi2 : i ≤ 100) => a2At_any a1 cap1 more i n w' (HS6.out.m.below hb (Nat.le_refl _)) B1 hi hi2)
        rcases (show c = 0 ∨ c = 1 ∨ c = 2 ∨ c = 3 by omega) with rfl | rfl | rfl | rfl
        · obtain ⟨ft, hft⟩ : ∃ ft, ft = fs[k].t := ⟨_, rfl⟩
          have hft1 : -1 ≤ ft ∧ ft ≤ 2800 := by rw [hft]; exact HTK.out.1
          rw [← hft] at q0
          clear hft
          go_wp2_with fail
          refine wp_region_T 0 11 (fun w' => w'.cell? ⟨g, k * 3, none⟩ = some (.int .i64 ft)) (by kernel_rfl) q0 (fun hHeld => ?_)
          have HWD := Lib.hid (HW6.out.drew1)
          have hbd : Below u6.heap.size u6 u6.drew := bl_drew (Below.refl _ _)
          (refine' wpAnyT_take 12 0 (oi := ?oi1) (v := ?v1) ?hi1 (by kernel_rfl) (by kernel_rfl) (by kernel_rfl) (by kernel_rfl) (by kernel_rfl) (by kernel_rfl) ?hQ1 ?hy1 (by assumption) ?rest1; (case hi1 => simp only [List.getElem?_toArray, List.getElem?_cons_zero, List.getElem?_cons_succ]; rfl); (case hQ1 => exact fun _ _ _ h => h); (case hy1 => refine Or.inl ⟨by rfl, ?_⟩; intro wz hSw; (try dsimp only at hSw); go_simp; try with_reducible rfl); try simp only [Act.put, List.setIfInBounds_toArray, List.set_cons_zero, List.set_cons_succ])
          (refine' wpAnyT_take 12 1 (oi := ?oi2) (v := ?v2) ?hi2 (by kernel_rfl) (by kernel_rfl) (by kernel_rfl) (by kernel_rfl) (by kernel_rfl) (by kernel_rfl) ?hQ2 ?hy2 (by assumption) ?rest2; (case hi2 => simp only [List.getElem?_toArray, List.getElem?_cons_zero, List.getElem?_cons_succ]; rfl); (case hQ2 => exact fun _ _ _ h => h); (case hy2 => refine Or.inl ⟨by rfl, ?_⟩; intro wz hSw; (try dsimp only at hSw); go_simp; try with_reducible rfl); try simp only [Act.put, List.setIfInBounds_toArray, List.set_cons_zero, List.set_cons_succ])
          (refine' wpAnyT_take 12 2 (oi := ?oi3) (v := ?v3) ?hi3 (by kernel_rfl) (by kernel_rfl) (by kernel_rfl) (by kernel_rfl) (by kernel_rfl) (by kernel_rfl) ?hQ3 ?hy3 (by assumption) ?rest3; (case hi3 => simp only [List.getElem?_toArray, List.getElem?_cons_zero, List.getElem?_cons_succ]; rfl); (case hQ3 => exact fun _ _ _ h => h); (case hy3 => refine Or.inl ⟨by rfl, ?_⟩; intro wz hSw; (try dsimp only at hSw); go_simp; try with_reducible rfl); try simp only [Act.put, List.setIfInBounds_toArray, List.set_cons_zero, List.set_cons_succ])
          (refine' wpAnyT_take 12 3 (oi := ?oi4) (v := ?v4) ?hi4 (by kernel_rfl) (by kernel_rfl) (by kernel_rfl) (by kernel_rfl) (by kernel_rfl) (by kernel_rfl) ?hQ4 ?hy4 (by assumption) ?rest4; (case hi4 => simp only [List.getElem?_toArray, List.getElem?_cons_zero, List.getElem?_cons_succ]; rfl); (case hQ4 => exact fun _ _ _ h => h); (case hy4 => refine Or.inl ⟨by rfl, ?_⟩; intro wz hSw; (try dsimp only at hSw); go_simp; try with_reducible rfl); try simp only [Act.put, List.setIfInBounds_toArray, List.set_cons_zero, List.set_cons_succ])
          (refine' wpAnyT_take 12 4 (oi := ?oi5) (v := ?v5) ?hi5 (by kernel_rfl) (by kernel_rfl) (by kernel_rfl) (by kernel_rfl) (by kernel_rfl) (by kernel_rfl) ?hQ5 ?hy5 (by assumption) ?rest5; (case hi5 => simp only [List.getElem?_toArray, List.getElem?_cons_zero, List.getElem?_cons_succ]; rfl); (case hQ5 => exact fun _ _ _ h => h); (case hy5 => refine Or.inl ⟨by rfl, ?_⟩; intro wz hSw; (try dsimp only at hSw); go_simp; try with_reducible rfl); try simp only [Act.put, List.setIfInBounds_toArray, List.set_cons_zero, List.set_cons_succ])
          (refine' wpAnyT_take 12 5 (oi := ?oi6) (v := ?v6) ?hi6 (by kernel_rfl) (by kernel_rfl) (by kernel_rfl) (by kernel_rfl) (by kernel_rfl) (by kernel_rfl) ?hQ6 ?hy6 (by assumption) ?rest6; (case hi6 => simp only [List.getElem?_toArray, List.getElem?_cons_zero, List.getElem?_cons_succ]; rfl); (case hQ6 => exact fun _ _ _ h => h); (case hy6 => refine Or.inl ⟨by rfl, ?_⟩; intro wz hSw; (try dsimp only at hSw); go_simp; try with_reducible rfl); try simp only [Act.put, List.setIfInBounds_toArray, List.set_cons_zero, List.set_cons_succ])
          refine wpAnyT_ready (rs := [6]) (by kernel_rfl) (by simp) ?_
          (refine' AllReadyT.cons (o := ?o32) ?ho32 (fun K hK => ?step32) AllReadyT.nil; (case ho32 => simp only [List.getElem?_toArray, List.getElem?_cons_zero, List.getElem?_cons_succ]; rfl))
          go_simp
          refine (HA.out _ hbd 2 3 (by omega) (by omega)).mono ?_
          rintro e w' ⟨x, rfl, x0, x1, rfl⟩
          have e1 : IntKind.i64.wrap (1 + x) = 1 + x := wrap_i64' _ (by omega) (by omega)
          have e2 : IntKind.i64.wrap (ft + (1 + x)) = ft + (1 + x) := wrap_i64' _ (by omega) (by omega)
          refine hK.out _ _ (fun _ _ => q0) (fun hHd => ?_)
          have hHeld := hHd (by decide) (by decide)
          clear hHd hK K
          try simp only [Act.put, List.setIfInBounds_toArray, List.set_cons_zero, List.set_cons_succ]
          (refine' wpAnyT_take 12 7 (oi := ?oi7) (v := ?v7) ?hi7 (by kernel_rfl) (by kernel_rfl) (by kernel_rfl) (by kernel_rfl) (by kernel_rfl) (by kernel_rfl) ?hQ7 ?hy7 (by assumption) ?rest7; (case hi7 => simp only [List.getElem?_toArray, List.getElem?_cons_zero, List.getElem?_cons_succ]; rfl); (case hQ7 => exact fun _ _ _ h => h); (case hy7 => refine Or.inl ⟨by rfl, ?_⟩; intro wz hSw; (try dsimp only at hSw); go_simp; try with_reducible rfl); try simp only [Act.put, List.setIfInBounds_toArray, List.set_cons_zero, List.set_cons_succ])
          (refine' wpAnyT_take 12 8 (oi := ?oi8) (v := ?v8) ?hi8 (by kernel_rfl) (by kernel_rfl) (by kernel_rfl) (by kernel_rfl) (by kernel_rfl) (by kernel_rfl) ?hQ8 ?hy8 (by assumption) ?rest8; (case hi8 => simp only [List.getElem?_toArray, List.getElem?_cons_zero, List.getElem?_cons_succ]; rfl); (case hQ8 => exact fun _ _ _ h => h); (case hy8 => refine Or.inl ⟨by rfl, ?_⟩; intro wz hSw; (try dsimp only at hSw); go_simp; try with_reducible rfl); try simp only [Act.put, List.setIfInBounds_toArray, List.set_cons_zero, List.set_cons_succ])
          (refine' wpAnyT_take 12 9 (oi := ?oi9) (v := ?v9) ?hi9 (by kernel_rfl) (by kernel_rfl) (by kernel_rfl) (by kernel_rfl) (by kernel_rfl) (by kernel_rfl) ?hQ9 ?hy9 (by assumption) ?rest9; (case hi9 => simp only [List.getElem?_toArray, List.getElem?_cons_zero, List.getElem?_cons_succ]; rfl); (case hQ9 => exact fun _ _ _ h => h); (case hy9 => refine Or.inl ⟨by rfl, ?_⟩; intro wz hSw; (try dsimp only at hSw); go_simp; try with_reducible rfl); try simp only [Act.put, List.setIfInBounds_toArray, List.set_cons_zero, List.set_cons_succ])
          (refine' wpAnyT_take 12 10 (oi := ?oi10) (v := ?v10) ?hi10 (by kernel_rfl) (by kernel_rfl) (by kernel_rfl) (by kernel_rfl) (by kernel_rfl) (by kernel_rfl) ?hQ10 ?hy10 (by assumption) ?rest10; (case hi10 => simp only [List.getElem?_toArray, List.getElem?_cons_zero, List.getElem?_cons_succ]; rfl); (case hQ10 => exact fun _ _ _ h => h); (case hy10 => refine Or.inl ⟨by rfl, ?_⟩; intro wz hSw; (try dsimp only at hSw); go_simp; try with_reducible rfl); try simp only [Act.put, List.setIfInBounds_toArray, List.set_cons_zero, List.set_cons_succ])
          have q0d : u6.drew.cell? ⟨g, k * 3, none⟩ = some (.int .i64 ft) := q0
          have f0d : u6.drew.frozen? ⟨g, k * 3, none⟩ = false := f0
          refine wpAnyT_ready (rs := [11]) (by kernel_rfl) (by simp) ?_
          (refine' AllReadyT.cons (o := ?o33) ?ho33 (fun K hK => ?step33) AllReadyT.nil; (case ho33 => simp only [List.getElem?_toArray, List.getElem?_cons_zero, List.getElem?_cons_succ]; rfl))
          go_simp
          refine hK.out _ _ (fun _ h => absurd h (by decide)) (fun _ => ?_)
          clear hK K hHeld
          try simp only [Act.put, List.setIfInBounds_toArray, List.set_cons_zero, List.set_cons_succ]
          refine wpAnyT_done (by kernel_rfl) ?_ _
          go_wp2_with fail
          go_meet
          exact ⟨_, HWD.out.t k hk (ft + (1 + x)) (by omega)⟩
        · go_wp2_with fail
          refine (HA.out _ (by repeat (first | with_reducible exact Below.refl _ _ | with_reducible assumption | with_reducible apply bl_drewN | with_reducible apply bl_drew | with_reducible apply bl_alloc | (with_reducible refine bl_set ?_ (by first | (simp; done) | (simp; omega)) _) | with_reducible refine bl_trans ?_ (by with_reducible assumption))) 2 4 (by omega) (by omega)).mono ?_
          rintro e w' ⟨x, rfl, x0, x1, rfl⟩
          have e1 : IntKind.i8.wrap x = x := by simp [IntKind.wrap, IntKind.bits, IntKind.signed]; omega
          go_wp2_with fail
          go_meet
          exact ⟨_, ((HW6.out.t k hk 5 (by omega)).fb k (by simp; exact hk) x (by omega)).by_ k (by simp; exact hk) (-1) (by omega)⟩
        · go_wp2_with fail
          go_meet
          exact ⟨_, ((HW6.out.t k hk (-1) (by omega)).fb k (by simp; exact hk) 0 (by omega)).by_ k (by simp; exact hk) (-1) (by omega)⟩
        · go_wp2_with fail
          refine (HA.out _ (by repeat (first | with_reducible exact Below.refl _ _ | with_reducible assumption | with_reducible apply bl_drewN | with_reducible apply bl_drew | with_reducible apply bl_alloc | (with_reducible refine bl_set ?_ (by first | (simp; done) | (simp; omega)) _) | with_reducible refine bl_trans ?_ (by with_reducible assumption))) 2 5 (by omega) (by omega)).mono ?_
          rintro e w' ⟨x, rfl, x0, x1, rfl⟩
          go_wp2_with fail
          go_meet
          exact ⟨_, HW6.out.by_ k hk x (by omega)⟩
      case rest =>
        obtain ⟨ws, hws⟩ := hcut
        have HW := Lib.hid hws
        have hwl : ws.length = fs.length := hws.len
        have HSW := Lib.hid (HS5.out.step hws.b)
        have hsv : SV Fa.cells wc (.slice (some ⟨g, 0, none⟩) fs.length gc) ws := by
          have := own_sv (f := Fa.cells) (xs := ws) (v := .slice (some ⟨g, 0, none⟩) fs.length gc) (by rw [hwl]; exact hws.own)
          exact this
        obtain ⟨e1, e2, e3, e4⟩ := VK.out ws hws.small
        have told : decide (firstWrong (Bd.mk wd hg ps).ps qs ws < 0) = decide (ws = fs) := by
          have := PRF.out.told HGOOD.out ws (by have := PRF.out.len; omega) hws.small
          rw [Bool.eq_iff_iff, decide_eq_true_eq, decide_eq_true_eq]
          exact this
        obtain ⟨B, C, X, hB, hC, hX, hBC⟩ : ∃ (B : Bool) (C X : Int), decide (ws = fs) = B ∧ fwC ⟨wd, hg, ps⟩ qs ws = C ∧ fwV ⟨wd, hg, ps⟩ qs ws = X ∧ ((B = true ∧ C = 6) ∨ (B = false ∧ C = 0)) := by
          refine ⟨_, _, _, rfl, rfl, rfl, ?_⟩
          rw [← told]
          unfold fwC
          by_cases hf : firstWrong (Bd.mk wd hg ps).ps qs ws < 0
          · exact .inl ⟨by simpa using hf, by rw [if_pos hf]⟩
          · exact .inr ⟨by simpa using hf, by rw [if_neg hf]⟩
        have CKw := Lib.hid (fun u h hv => CK.out u h (.slice (some ⟨g, 0, none⟩) fs.length gc) ws hv hws.small (by omega))
        have FKw := Lib.hid (fun u h hv => FK.out u h (.slice (some ⟨g, 0, none⟩) fs.length gc) ws hv hws.small (by omega))
        have GKw := Lib.hid (fun u h hv => GK.out u h (.slice (some ⟨g, 0, none⟩) fs.length gc) ws hv hws.small (by omega))
        rw [e1, e2, told, hB] at CKw
        rw [e3, e4, hC, hX] at FKw GKw
        have HSV := Lib.hid hsv
        have HBX := Lib.hid hB
        clear hB hC hX told e1 e2 e3 e4 hsv hws
        obtain ⟨x0, x1, x2, x3⟩ := HSW.out.x
        go_wp2_with fail
        refine (CKw.out wc HSW.out HSV.out).mono ?_
        rintro e v1 ⟨rfl, hb7⟩
        have HS7 := Lib.hid (HSW.out.step hb7)
        have HV7 := Lib.hid (HSV.out.step hb7)
        clear x0 x1 x2 x3 hb7
        obtain ⟨x0, x1, x2, x3⟩ := HS7.out.x
        go_wp2_with fail
        refine (FKw.out v1 HS7.out HV7.out).mono ?_
        rintro e v2 ⟨rfl, hb8⟩
        have HS8 := Lib.hid (HS7.out.step hb8)
        have HV8 := Lib.hid (HV7.out.step hb8)
        clear x0 x1 x2 x3 hb8
        obtain ⟨x0, x1, x2, x3⟩ := HS8.out.x
        go_wp2_with fail
        refine (GKw.out v2 HS8.out HV8.out).mono ?_
        rintro e v3 ⟨rfl, hb9⟩
        have HS9 := Lib.hid (HS8.out.step hb9)
        have HV9 := Lib.hid (HV8.out.step hb9)
        clear x0 x1 x2 x3 hb9 CKw FKw GKw HS7 HS8 HV7 HV8
        have HSA : Hid (∀ u, u = v3 → Calls Try.prog 12 #[.slice (some ⟨g, 0, none⟩) fs.length gc, .slice (some ⟨fb, fo, none⟩) fs.length fc] u fun e w' => e = .returned (.bool B) ∧ Below v3.heap.size v3 w') := Lib.hid (by
          intro u hu
          subst hu
          obtain ⟨a1', c1', h1', h2'⟩ := HV9.out
          obtain ⟨a2', c2', h3', h4'⟩ := HS9.out.f
          simp only [Value.slice.injEq] at h1' h3'
          obtain ⟨rfl, -, rfl⟩ := h1'
          obtain ⟨rfl, -, rfl⟩ := h3'
          have := specSameFalls_any (some ⟨g, 0, none⟩) (some ⟨fb, fo, none⟩) gc fc ws fs u h2' h4' (Nat.le_refl _) (by omega) (by omega)
          rw [HBX.out, hwl] at this
          exact this)
        have FKL : Hid (∀ u (h : PfS w u bx wd hg (.slice sa ps.length sc) ps (.slice qa qs.length qc) qs (.slice (some ⟨fb, fo, none⟩) fs.length fc) fs a1 more) (a2 : Option Addr) (c2 : Nat) (hv : SV Fa.cells u (.slice a2 (fs.length + 1) c2) (fs ++ [stF])), Calls Try.prog 9 #[bdv wd hg (.slice sa ps.length sc), .slice qa qs.length qc, .slice a2 (fs.length + 1) c2] u fun e w' => e = .returned (.tuple #[.int .i64 (fs.length : Int), .int .i64 0]) ∧ Below u.heap.size u w') := by
          refine Lib.hid (fun u h a2 c2 hv => ?_)
          have hs : ∀ f ∈ fs ++ [stF], smallFa f := by
            intro f hf
            rw [List.mem_append, List.mem_singleton] at hf
            rcases hf with hf | rfl
            · exact SM.out f hf
            · exact ⟨⟨by decide, by decide⟩, ⟨by decide, by decide⟩, by decide, by decide⟩
          obtain ⟨-, -, e3, e4⟩ := VK.out _ hs
          have h1 := PRF.out.long
          have e5 : fwC ⟨wd, hg, ps⟩ qs (fs ++ [stF]) = 0 := by unfold fwC; rw [h1, if_neg (by omega)]
          have e6 : fwV ⟨wd, hg, ps⟩ qs (fs ++ [stF]) = (fs.length : Int) := by unfold fwV; rw [h1, if_neg (by omega)]
          have := FK.out u h _ (fs ++ [stF]) hv hs (by simp; omega)
          rw [e3, e4, e5, e6] at this
          exact this
        have hfn : (fs.take k).length = k := by rw [List.length_take]; omega
        obtain ⟨Y, FKS, hY0, hY1⟩ : ∃ Y : Int, Hid (∀ u (h : PfS w u bx wd hg (.slice sa ps.length sc) ps (.slice qa qs.length qc) qs (.slice (some ⟨fb, fo, none⟩) fs.length fc) fs a1 more) (hv : SV Fa.cells u (.slice (some ⟨fb, fo, none⟩) k fc) (fs.take k)), Calls Try.prog 9 #[bdv wd hg (.slice sa ps.length sc), .slice qa qs.length qc, .slice (some ⟨fb, fo, none⟩) k fc] u fun e w' => e = .returned (.tuple #[.int .i64 Y, .int .i64 0]) ∧ Below u.heap.size u w') ∧ 0 ≤ Y ∧ Y ≤ k := by
          have hs : ∀ f ∈ fs.take k, smallFa f := fun f hf => SM.out f (List.mem_of_mem_take hf)
          obtain ⟨-, -, e3, e4⟩ := VK.out _ hs
          obtain ⟨h1, h2⟩ := PRF.out.short k hk
          have e5 : fwC ⟨wd, hg, ps⟩ qs (fs.take k) = 0 := by unfold fwC; rw [if_neg (by omega)]
          refine ⟨fwV ⟨wd, hg, ps⟩ qs (fs.take k), Lib.hid (fun u h hv => ?_), ?_, ?_⟩
          · have := FK.out u h _ (fs.take k) hv hs (by omega)
            rw [e3, e4, e5] at this
            exact this
          · unfold fwV; rw [if_neg (by omega)]; exact h1
          · unfold fwV; rw [if_neg (by omega)]; exact h2
        have hle : decide (Y ≤ (k : Int)) = true := by simpa using hY1
        go_upto_region 26 with fail
        go_cut [160] from 136 (fun s160 wx => s160 = .bool false ∧ PfS w wx bx wd hg (.slice sa ps.length sc) ps (.slice qa qs.length qc) qs (.slice (some ⟨fb, fo, none⟩) fs.length fc) fs a1 more)
        case first =>
          rcases hBC with ⟨rfl, rfl⟩ | ⟨rfl, rfl⟩
          all_goals
            go_wp2_with fail
            refine (HSA.out _ rfl).mono ?_
            rintro e v4 ⟨rfl, hb10⟩
            go_wp2_with fail
            go_meet
            exact ⟨rfl, HS9.out.step hb10⟩
        case rest =>
          obtain ⟨rfl, hst⟩ := hcut
          have HST := Lib.hid hst
          obtain ⟨v4, hv4⟩ : ∃ v4, v4 = wc := ⟨_, rfl⟩
          subst hv4
          clear hst HSA HV9 HS9 hBC x0 x1 x2 x3
          obtain ⟨x0, x1, x2, x3⟩ := HST.out.x
          have hkc : k ≤ fc := by omega
          have hkc2 : (k : Int) ≤ (fc : Int) := by omega
          have HVT := Lib.hid (sv_take HST.out.f (k := k) (by omega))
          go_wp2_with fail
          go_region_held3 (fun w' => Below v4.heap.size v4 w' ∧ ∀ b o, b < v4.heap.size → w'.cell? ⟨b, o, none⟩ = v4.cell? ⟨b, o, none⟩) ((refine ext_v ?_; exact (by repeat (first | with_reducible exact Below.refl _ _ | with_reducible assumption | with_reducible apply bl_drewN | with_reducible apply bl_drew | with_reducible apply bl_alloc | (with_reducible refine bl_set ?_ (by first | (simp; done) | (simp; omega)) _) | with_reducible refine bl_trans ?_ (by with_reducible assumption))))) (first | (go_at_call 9; refine (FKS.out _ (HST.out.step (by repeat (first | with_reducible exact Below.refl _ _ | with_reducible assumption | with_reducible apply bl_drewN | with_reducible apply bl_drew | with_reducible apply bl_alloc | (with_reducible refine bl_set ?_ (by first | (simp; done) | (simp; omega)) _) | with_reducible refine bl_trans ?_ (by with_reducible assumption)))) (HVT.out.step (by repeat (first | with_reducible exact Below.refl _ _ | with_reducible assumption | with_reducible apply bl_drewN | with_reducible apply bl_drew | with_reducible apply bl_alloc | (with_reducible refine bl_set ?_ (by first | (simp; done) | (simp; omega)) _) | with_reducible refine bl_trans ?_ (by with_reducible assumption))))).mono ?_; rintro e wa ⟨rfl, ba⟩; have bwa : Below v4.heap.size v4 wa := (by repeat (first | with_reducible exact Below.refl _ _ | with_reducible assumption | with_reducible apply bl_drewN | with_reducible apply bl_drew | with_reducible apply bl_alloc | (with_reducible refine bl_set ?_ (by first | (simp; done) | (simp; omega)) _) | with_reducible refine bl_trans ?_ (by with_reducible assumption))); obtain ⟨hca, hfa⟩ := bcell bwa))
          -- REGION 29
          have HSW := Lib.hid (HST.out.step bwa)
          clear x0 x1 x2 x3 hca hfa bwa ba HST HVT
          obtain ⟨x0, x1, x2, x3⟩ := HSW.out.x
          go_upto_region 29 with fail
          refine wp_region_T 0 14 (fun w' => w'.cell? ⟨bx, 0, none⟩ = some (.int .i8 wd) ∧ w'.cell? ⟨bx, 1, none⟩ = some (.int .i8 hg) ∧ w'.cell? ⟨bx, 2, none⟩ = some (.slice sa ps.length sc)) (by kernel_rfl) ⟨x1, x2, x3⟩ (fun hHeld => ?_)
          have hbd : Below wa.heap.size wa wa.drew := bl_drew (Below.refl _ _)
          have HSY := Lib.hid (HSW.out.step hbd)
          obtain ⟨Y0, hY0⟩ : ∃ Y, Y = wa.drew := ⟨_, rfl⟩
          rw [← hY0] at HSY hHeld ⊢
          clear hY0 hbd x0 x1 x2 x3 HSW
          have HBY0 := Lib.hid (Below.refl Y0.heap.size Y0)
          have HNEWS := Lib.hid (fun W' (hb : Below Y0.heap.size Y0 W') => sl_news (sv_sl (HSY.out.f)) hb)
          (refine' wpAnyT_take 12 0 (oi := ?oi11) (v := ?v11) ?hi11 (by kernel_rfl) (by kernel_rfl) (by kernel_rfl) (by kernel_rfl) (by kernel_rfl) (by kernel_rfl) ?hQ11 ?hy11 (by assumption) ?rest11; (case hi11 => simp only [List.getElem?_toArray, List.getElem?_cons_zero, List.getElem?_cons_succ]; rfl); (case hQ11 => exact fun _ _ _ h => h); (case hy11 => refine Or.inl ⟨by rfl, ?_⟩; intro wz hSw; (try dsimp only at hSw); go_simp; try with_reducible rfl); try simp only [Act.put, List.setIfInBounds_toArray, List.set_cons_zero, List.set_cons_succ])
          (refine' wpAnyT_take 12 1 (oi := ?oi12) (v := ?v12) ?hi12 (by kernel_rfl) (by kernel_rfl) (by kernel_rfl) (by kernel_rfl) (by kernel_rfl) (by kernel_rfl) ?hQ12 ?hy12 (by assumption) ?rest12; (case hi12 => simp only [List.getElem?_toArray, List.getElem?_cons_zero, List.getElem?_cons_succ]; rfl); (case hQ12 => exact fun _ _ _ h => h); (case hy12 => refine Or.inl ⟨by rfl, ?_⟩; intro wz hSw; (try dsimp only at hSw); go_simp; try with_reducible rfl); try simp only [Act.put, List.setIfInBounds_toArray, List.set_cons_zero, List.set_cons_succ])
          (refine' wpAnyT_take 12 3 (oi := ?oi13) (v := ?v13) ?hi13 (by kernel_rfl) (by kernel_rfl) (by kernel_rfl) (by kernel_rfl) (by kernel_rfl) (by kernel_rfl) ?hQ13 ?hy13 (by assumption) ?rest13; (case hi13 => simp only [List.getElem?_toArray, List.getElem?_cons_zero, List.getElem?_cons_succ]; rfl); (case hQ13 => exact fun _ _ _ h => h); (case hy13 => refine Or.inl ⟨by rfl, ?_⟩; intro wz hSw; (try dsimp only at hSw); go_simp; try with_reducible rfl); try simp only [Act.put, List.setIfInBounds_toArray, List.set_cons_zero, List.set_cons_succ])
          (refine' wpAnyT_take 12 5 (oi := ?oi14) (v := ?v14) ?hi14 (by kernel_rfl) (by kernel_rfl) (by kernel_rfl) (by kernel_rfl) (by kernel_rfl) (by kernel_rfl) ?hQ14 ?hy14 (by assumption) ?rest14; (case hi14 => simp only [List.getElem?_toArray, List.getElem?_cons_zero, List.getElem?_cons_succ]; rfl); (case hQ14 => exact fun _ _ _ h => h); (case hy14 => refine Or.inl ⟨by rfl, ?_⟩; intro wz hSw; (try dsimp only at hSw); go_simp; try with_reducible rfl); try simp only [Act.put, List.setIfInBounds_toArray, List.set_cons_zero, List.set_cons_succ])
          refine wpAnyT_ready (rs := [2, 6]) (by kernel_rfl) (by simp) ?_
          (refine' AllReadyT.cons (o := ?o30) ?ho30 (fun K hK => ?step30) ?more30; (case ho30 => simp only [List.getElem?_toArray, List.getElem?_cons_zero, List.getElem?_cons_succ]; rfl))
          · go_simp
            have haY1 := heap_alloc_new Y0 (.cells #[] 40)
            have hzY1 : Y0.heap.size + 1 ≤ (Y0.alloc (.cells #[] 40)).heap.size ∧ (Y0.alloc (.cells #[] 40)).heap.size ≤ Y0.heap.size + 1 := by simp
            have hbY1 : Below Y0.heap.size Y0 (Y0.alloc (.cells #[] 40)) := bl_alloc (Below.refl _ _)
            obtain ⟨Y1, hY1⟩ : ∃ Y, Y = Y0.alloc (.cells #[] 40) := ⟨_, rfl⟩
            rw [← hY1] at haY1 hzY1 hbY1 ⊢
            have HBY1 := Lib.hid (bl_trans HBY0.out hbY1)
            have HSY1 := Lib.hid (HSY.out.step HBY1.out)
            have own0 : Y1.ownsRow Y0.heap.size 40 3 (.slice (some ⟨Y0.heap.size, 0, none⟩) 0 0) 0 [] := by rw [hY1]; exact World.ownsRow_made Y0 #[] 0 (by first | exact Nat.le_refl _ | omega) (by simp [maxLen]) rfl
            clear hY1
            refine hK.out _ _ (fun _ _ => ⟨HSY1.out.x.2.1, HSY1.out.x.2.2.1, HSY1.out.x.2.2.2⟩) (fun hHd => ?_)
            have hHeld := hHd (by decide) (by decide)
            clear hHd hK K
            try simp only [Act.put, List.setIfInBounds_toArray, List.set_cons_zero, List.set_cons_succ]
            refine wpAnyT_ready (rs := [4, 6]) (by kernel_rfl) (by simp) ?_
            (refine' AllReadyT.cons (o := ?o31) ?ho31 (fun K hK => ?step31) ?more31; (case ho31 => simp only [List.getElem?_toArray, List.getElem?_cons_zero, List.getElem?_cons_succ]; rfl))
            · refine step_append_lies _ (by rfl) _ _ _ (by rfl) Y0.heap.size 40 i0 _ 3 24 Try.underlying31 hi hi0 hi1 hi2 rfl (by omega) _ 0 [] (by rfl) own0 ⟨fb, fo, none⟩ fs.length fc (flat Fa.cells fs) (by rfl) (flat_length Fa.len fs) (HNEWS.out _ HBY1.out) (one_cells Fa.one fs) hz1 (by unfold maxLen; omega) (by omega) HBY1.out.size _ rfl ?_
              intro gg cap3 Y2 hown3 hgrow hat3 hlt3
              rw [Nat.zero_add, List.nil_append] at hown3
              rw [Nat.zero_add]
              have hb2 : Below Y1.heap.size Y1 Y2 ∨ True := .inr trivial
              have HBY2 := Lib.hid (bl_grown HBY1.out hgrow (fun q hq => by cases hq; exact Nat.le_refl _))
              have HSY2 := Lib.hid (HSY.out.step HBY2.out)
              refine hK.out _ _ (fun _ _ => ⟨HSY2.out.x.2.1, HSY2.out.x.2.2.1, HSY2.out.x.2.2.2⟩) (fun hHd => ?_)
              have hHeld := hHd (by decide) (by decide)
              clear hHd hK K
              try simp only [Act.put, List.setIfInBounds_toArray, List.set_cons_zero, List.set_cons_succ]
              refine wpAnyT_ready (rs := [6]) (by kernel_rfl) (by simp) ?_
              (refine' AllReadyT.cons (o := ?o34) ?ho34 (fun K hK => ?step34) AllReadyT.nil; (case ho34 => simp only [List.getElem?_toArray, List.getElem?_cons_zero, List.getElem?_cons_succ]; rfl))
              go_simp
              have haY3 := heap_alloc_new Y2 (.cells #[.int .i64 (-1), .int .i8 0, .int .i64 (-1)] 40)
              have hzY3 : Y2.heap.size + 1 ≤ (Y2.alloc (.cells #[.int .i64 (-1), .int .i8 0, .int .i64 (-1)] 40)).heap.size ∧ (Y2.alloc (.cells #[.int .i64 (-1), .int .i8 0, .int .i64 (-1)] 40)).heap.size ≤ Y2.heap.size + 1 := by simp
              have hbY3 : Below Y2.heap.size Y2 (Y2.alloc (.cells #[.int .i64 (-1), .int .i8 0, .int .i64 (-1)] 40)) := bl_alloc (Below.refl _ _)
              obtain ⟨Y3, hY3⟩ : ∃ Y, Y = Y2.alloc (.cells #[.int .i64 (-1), .int .i8 0, .int .i64 (-1)] 40) := ⟨_, rfl⟩
              rw [← hY3] at haY3 hzY3 hbY3 ⊢
              have HBY3 := Lib.hid (bl_trans HBY2.out hbY3)
              have HSY3 := Lib.hid (HSY.out.step HBY3.out)
              clear hY3
              refine hK.out _ _ (fun _ _ => ⟨HSY3.out.x.2.1, HSY3.out.x.2.2.1, HSY3.out.x.2.2.2⟩) (fun hHd => ?_)
              have hHeld := hHd (by decide) (by decide)
              clear hHd hK K
              try simp only [Act.put, List.setIfInBounds_toArray, List.set_cons_zero, List.set_cons_succ]
              refine wpAnyT_ready (rs := [7]) (by kernel_rfl) (by simp) ?_
              (refine' AllReadyT.cons (o := ?o35) ?ho35 (fun K hK => ?step35) AllReadyT.nil; (case ho35 => simp only [List.getElem?_toArray, List.getElem?_cons_zero, List.getElem?_cons_succ]; rfl))
              refine step_append_lies _ (by rfl) _ _ _ (by rfl) Y0.heap.size 40 i0 _ 3 24 Try.underlying31 hi hi0 hi1 hi2 rfl (by omega) _ fs.length (flat Fa.cells fs) (by rfl) (own_below hown3 hbY3 (Nat.le_refl _)) ⟨Y2.heap.size, 0, none⟩ 1 1 [.int .i64 (-1), .int .i8 0, .int .i64 (-1)] (by rfl) (by rfl) (World.news_of_block (cs := #[.int .i64 (-1), .int .i8 0, .int .i64 (-1)]) (t := 40) (fr := (0, 0)) haY3) (Fa.one stF) (by omega) (by unfold maxLen; omega) (by omega) HBY3.out.size _ rfl ?_
              intro gg2 cap4 Y4 hown4 hgrow4 hat4 hlt4
              have hcells : flat Fa.cells fs ++ [.int .i64 (-1), .int .i8 0, .int .i64 (-1)] = flat Fa.cells (fs ++ [stF]) := by rw [flat_append]; rfl
              rw [hcells] at hown4
              have HB4 := Lib.hid (bl_grown HBY3.out hgrow4 (fun q hq => (hown3.lt q hq).1))
              have HS4 := Lib.hid (HSY.out.step HB4.out)
              have HV4 : Hid (SV Fa.cells Y4 (.slice (some ⟨gg2, 0, none⟩) (fs.length + 1) cap4) (fs ++ [stF])) := Lib.hid (by
                have h5 : (fs ++ [stF]).length = fs.length + 1 := by simp
                have h6 := own_sv (f := Fa.cells) (xs := fs ++ [stF]) (v := .slice (some ⟨gg2, 0, none⟩) (fs.length + 1) cap4) (by rw [h5]; exact hown4)
                exact h6)
              refine hK.out _ _ (fun _ _ => ⟨HS4.out.x.2.1, HS4.out.x.2.2.1, HS4.out.x.2.2.2⟩) (fun hHd => ?_)
              have hHeld := hHd (by decide) (by decide)
              clear hHd hK K
              try simp only [Act.put, List.setIfInBounds_toArray, List.set_cons_zero, List.set_cons_succ]
              refine wpAnyT_ready (rs := [8]) (by kernel_rfl) (by simp) ?_
              (refine' AllReadyT.cons (o := ?o36) ?ho36 (fun K hK => ?step36) AllReadyT.nil; (case ho36 => simp only [List.getElem?_toArray, List.getElem?_cons_zero, List.getElem?_cons_succ]; rfl))
              go_simp
              refine (FKL.out Y4 HS4.out _ _ HV4.out).mono ?_
              rintro e Y9 ⟨rfl, hb9⟩
              have HS9 := Lib.hid (HS4.out.step hb9)
              refine hK.out _ _ (fun _ _ => ⟨HS9.out.x.2.1, HS9.out.x.2.2.1, HS9.out.x.2.2.2⟩) (fun hHd => ?_)
              have hHeld := hHd (by decide) (by decide)
              clear hHd hK K
              try simp only [Act.put, List.setIfInBounds_toArray, List.set_cons_zero, List.set_cons_succ]
              (refine' wpAnyT_take 12 9 (oi := ?oi15) (v := ?v15) ?hi15 (by kernel_rfl) (by kernel_rfl) (by kernel_rfl) (by kernel_rfl) (by kernel_rfl) (by kernel_rfl) ?hQ15 ?hy15 (by assumption) ?rest15; (case hi15 => simp only [List.getElem?_toArray, List.getElem?_cons_zero, List.getElem?_cons_succ]; rfl); (case hQ15 => exact fun _ _ _ h => h); (case hy15 => refine Or.inl ⟨by rfl, ?_⟩; intro wz hSw; (try dsimp only at hSw); go_simp; try with_reducible rfl); try simp only [Act.put, List.setIfInBounds_toArray, List.set_cons_zero, List.set_cons_succ])
              (refine' wpAnyT_take 12 10 (oi := ?oi16) (v := ?v16) ?hi16 (by kernel_rfl) (by kernel_rfl) (by kernel_rfl) (by kernel_rfl) (by kernel_rfl) (by kernel_rfl) ?hQ16 ?hy16 (by assumption) ?rest16; (case hi16 => simp only [List.getElem?_toArray, List.getElem?_cons_zero, List.getElem?_cons_succ]; rfl); (case hQ16 => exact fun _ _ _ h => h); (case hy16 => refine Or.inl ⟨by rfl, ?_⟩; intro wz hSw; (try dsimp only at hSw); go_simp; try with_reducible rfl); try simp only [Act.put, List.setIfInBounds_toArray, List.set_cons_zero, List.set_cons_succ])
              (refine' wpAnyT_take 12 11 (oi := ?oi17) (v := ?v17) ?hi17 (by kernel_rfl) (by kernel_rfl) (by kernel_rfl) (by kernel_rfl) (by kernel_rfl) (by kernel_rfl) ?hQ17 ?hy17 (by assumption) ?rest17; (case hi17 => simp only [List.getElem?_toArray, List.getElem?_cons_zero, List.getElem?_cons_succ]; rfl); (case hQ17 => exact fun _ _ _ h => h); (case hy17 => refine Or.inl ⟨by rfl, ?_⟩; intro wz hSw; (try dsimp only at hSw); go_simp; try with_reducible rfl); try simp only [Act.put, List.setIfInBounds_toArray, List.set_cons_zero, List.set_cons_succ])
              (refine' wpAnyT_take 12 12 (oi := ?oi18) (v := ?v18) ?hi18 (by kernel_rfl) (by kernel_rfl) (by kernel_rfl) (by kernel_rfl) (by kernel_rfl) (by kernel_rfl) ?hQ18 ?hy18 (by assumption) ?rest18; (case hi18 => simp only [List.getElem?_toArray, List.getElem?_cons_zero, List.getElem?_cons_succ]; rfl); (case hQ18 => exact fun _ _ _ h => h); (case hy18 => refine Or.inl ⟨by rfl, ?_⟩; intro wz hSw; (try dsimp only at hSw); go_simp; try with_reducible rfl); try simp only [Act.put, List.setIfInBounds_toArray, List.set_cons_zero, List.set_cons_succ])
              (refine' wpAnyT_take 12 13 (oi := ?oi19) (v := ?v19) ?hi19 (by kernel_rfl) (by kernel_rfl) (by kernel_rfl) (by kernel_rfl) (by kernel_rfl) (by kernel_rfl) ?hQ19 ?hy19 (by assumption) ?rest19; (case hi19 => simp only [List.getElem?_toArray, List.getElem?_cons_zero, List.getElem?_cons_succ]; rfl); (case hQ19 => exact fun _ _ _ h => h); (case hy19 => refine Or.inl ⟨by rfl, ?_⟩; intro wz hSw; (try dsimp only at hSw); go_simp; try with_reducible rfl); try simp only [Act.put, List.setIfInBounds_toArray, List.set_cons_zero, List.set_cons_succ])
              refine wpAnyT_done (by kernel_rfl) ?_ _
              go_wp2_with fail
              go_ret
              exact ⟨rfl, HS9.out.b⟩
            · (refine' AllReadyT.cons (o := ?o37) ?ho37 (fun K hK => ?step37) AllReadyT.nil; (case ho37 => simp only [List.getElem?_toArray, List.getElem?_cons_zero, List.getElem?_cons_succ]; rfl))
              go_simp
              have haY2 := heap_alloc_new Y1 (.cells #[.int .i64 (-1), .int .i8 0, .int .i64 (-1)] 40)
              have hzY2 : Y1.heap.size + 1 ≤ (Y1.alloc (.cells #[.int .i64 (-1), .int .i8 0, .int .i64 (-1)] 40)).heap.size ∧ (Y1.alloc (.cells #[.int .i64 (-1), .int .i8 0, .int .i64 (-1)] 40)).heap.size ≤ Y1.heap.size + 1 := by simp
              have hbY2 : Below Y1.heap.size Y1 (Y1.alloc (.cells #[.int .i64 (-1), .int .i8 0, .int .i64 (-1)] 40)) := bl_alloc (Below.refl _ _)
              obtain ⟨Y2, hY2⟩ : ∃ Y, Y = Y1.alloc (.cells #[.int .i64 (-1), .int .i8 0, .int .i64 (-1)] 40) := ⟨_, rfl⟩
              rw [← hY2] at haY2 hzY2 hbY2 ⊢
              have HBY2 := Lib.hid (bl_trans HBY1.out hbY2)
              have HSY2 := Lib.hid (HSY.out.step HBY2.out)
              clear hY2
              refine hK.out _ _ (fun _ _ => ⟨HSY2.out.x.2.1, HSY2.out.x.2.2.1, HSY2.out.x.2.2.2⟩) (fun hHd => ?_)
              have hHeld := hHd (by decide) (by decide)
              clear hHd hK K
              try simp only [Act.put, List.setIfInBounds_toArray, List.set_cons_zero, List.set_cons_succ]
              refine wpAnyT_ready (rs := [4]) (by kernel_rfl) (by simp) ?_
              (refine' AllReadyT.cons (o := ?o38) ?ho38 (fun K hK => ?step38) AllReadyT.nil; (case ho38 => simp only [List.getElem?_toArray, List.getElem?_cons_zero, List.getElem?_cons_succ]; rfl))
              refine step_append_lies _ (by rfl) _ _ _ (by rfl) Y0.heap.size 40 i0 _ 3 24 Try.underlying31 hi hi0 hi1 hi2 rfl (by omega) _ 0 [] (by rfl) (own_below own0 hbY2 (Nat.le_refl _)) ⟨fb, fo, none⟩ fs.length fc (flat Fa.cells fs) (by rfl) (flat_length Fa.len fs) (HNEWS.out _ HBY2.out) (one_cells Fa.one fs) hz1 (by unfold maxLen; omega) (by omega) HBY2.out.size _ rfl ?_
              intro gg cap3 Y3 hown3 hgrow hat3 hlt3
              rw [Nat.zero_add, List.nil_append] at hown3
              rw [Nat.zero_add]
              have HBY3 := Lib.hid (bl_grown HBY2.out hgrow (fun q hq => by cases hq; exact Nat.le_refl _))
              have HSY3 := Lib.hid (HSY.out.step HBY3.out)
              have hk1 := blk_kept haY2 hgrow (fun e => by injection (show some Y0.heap.size = some Y1.heap.size from e) with e2; omega)
              refine hK.out _ _ (fun _ _ => ⟨HSY3.out.x.2.1, HSY3.out.x.2.2.1, HSY3.out.x.2.2.2⟩) (fun hHd => ?_)
              have hHeld := hHd (by decide) (by decide)
              clear hHd hK K
              try simp only [Act.put, List.setIfInBounds_toArray, List.set_cons_zero, List.set_cons_succ]
              refine wpAnyT_ready (rs := [7]) (by kernel_rfl) (by simp) ?_
              (refine' AllReadyT.cons (o := ?o39) ?ho39 (fun K hK => ?step39) AllReadyT.nil; (case ho39 => simp only [List.getElem?_toArray, List.getElem?_cons_zero, List.getElem?_cons_succ]; rfl))
              refine step_append_lies _ (by rfl) _ _ _ (by rfl) Y0.heap.size 40 i0 _ 3 24 Try.underlying31 hi hi0 hi1 hi2 rfl (by omega) _ fs.length (flat Fa.cells fs) (by rfl) hown3 ⟨Y1.heap.size, 0, none⟩ 1 1 [.int .i64 (-1), .int .i8 0, .int .i64 (-1)] (by rfl) (by rfl) (World.news_of_block (cs := #[.int .i64 (-1), .int .i8 0, .int .i64 (-1)]) (t := 40) (fr := (0, 0)) hk1) (Fa.one stF) (by omega) (by unfold maxLen; omega) (by omega) HBY3.out.size _ rfl ?_
              intro gg2 cap4 Y4 hown4 hgrow4 hat4 hlt4
              have hcells : flat Fa.cells fs ++ [.int .i64 (-1), .int .i8 0, .int .i64 (-1)] = flat Fa.cells (fs ++ [stF]) := by rw [flat_append]; rfl
              rw [hcells] at hown4
              have HB4 := Lib.hid (bl_grown HBY3.out hgrow4 (fun q hq => (hown3.lt q hq).1))
              have HS4 := Lib.hid (HSY.out.step HB4.out)
              have HV4 : Hid (SV Fa.cells Y4 (.slice (some ⟨gg2, 0, none⟩) (fs.length + 1) cap4) (fs ++ [stF])) := Lib.hid (by
                have h5 : (fs ++ [stF]).length = fs.length + 1 := by simp
                have h6 := own_sv (f := Fa.cells) (xs := fs ++ [stF]) (v := .slice (some ⟨gg2, 0, none⟩) (fs.length + 1) cap4) (by rw [h5]; exact hown4)
                exact h6)
              refine hK.out _ _ (fun _ _ => ⟨HS4.out.x.2.1, HS4.out.x.2.2.1, HS4.out.x.2.2.2⟩) (fun hHd => ?_)
              have hHeld := hHd (by decide) (by decide)
              clear hHd hK K
              try simp only [Act.put, List.setIfInBounds_toArray, List.set_cons_zero, List.set_cons_succ]
              refine wpAnyT_ready (rs := [8]) (by kernel_rfl) (by simp) ?_
              (refine' AllReadyT.cons (o := ?o40) ?ho40 (fun K hK => ?step40) AllReadyT.nil; (case ho40 => simp only [List.getElem?_toArray, List.getElem?_cons_zero, List.getElem?_cons_succ]; rfl))
              go_simp
              refine (FKL.out Y4 HS4.out _ _ HV4.out).mono ?_
              rintro e Y9 ⟨rfl, hb9⟩
              have HS9 := Lib.hid (HS4.out.step hb9)
              refine hK.out _ _ (fun _ _ => ⟨HS9.out.x.2.1, HS9.out.x.2.2.1, HS9.out.x.2.2.2⟩) (fun hHd => ?_)
              have hHeld := hHd (by decide) (by decide)
              clear hHd hK K
              try simp only [Act.put, List.setIfInBounds_toArray, List.set_cons_zero, List.set_cons_succ]
              (refine' wpAnyT_take 12 9 (oi := ?oi20) (v := ?v20) ?hi20 (by kernel_rfl) (by kernel_rfl) (by kernel_rfl) (by kernel_rfl) (by kernel_rfl) (by kernel_rfl) ?hQ20 ?hy20 (by assumption) ?rest20; (case hi20 => simp only [List.getElem?_toArray, List.getElem?_cons_zero, List.getElem?_cons_succ]; rfl); (case hQ20 => exact fun _ _ _ h => h); (case hy20 => refine Or.inl ⟨by rfl, ?_⟩; intro wz hSw; (try dsimp only at hSw); go_simp; try with_reducible rfl); try simp only [Act.put, List.setIfInBounds_toArray, List.set_cons_zero, List.set_cons_succ])
              (refine' wpAnyT_take 12 10 (oi := ?oi21) (v := ?v21) ?hi21 (by kernel_rfl) (by kernel_rfl) (by kernel_rfl) (by kernel_rfl) (by kernel_rfl) (by kernel_rfl) ?hQ21 ?hy21 (by assumption) ?rest21; (case hi21 => simp only [List.getElem?_toArray, List.getElem?_cons_zero, List.getElem?_cons_succ]; rfl); (case hQ21 => exact fun _ _ _ h => h); (case hy21 => refine Or.inl ⟨by rfl, ?_⟩; intro wz hSw; (try dsimp only at hSw); go_simp; try with_reducible rfl); try simp only [Act.put, List.setIfInBounds_toArray, List.set_cons_zero, List.set_cons_succ])
              (refine' wpAnyT_take 12 11 (oi := ?oi22) (v := ?v22) ?hi22 (by kernel_rfl) (by kernel_rfl) (by kernel_rfl) (by kernel_rfl) (by kernel_rfl) (by kernel_rfl) ?hQ22 ?hy22 (by assumption) ?rest22; (case hi22 => simp only [List.getElem?_toArray, List.getElem?_cons_zero, List.getElem?_cons_succ]; rfl); (case hQ22 => exact fun _ _ _ h => h); (case hy22 => refine Or.inl ⟨by rfl, ?_⟩; intro wz hSw; (try dsimp only at hSw); go_simp; try with_reducible rfl); try simp only [Act.put, List.setIfInBounds_toArray, List.set_cons_zero, List.set_cons_succ])
              (refine' wpAnyT_take 12 12 (oi := ?oi23) (v := ?v23) ?hi23 (by kernel_rfl) (by kernel_rfl) (by kernel_rfl) (by kernel_rfl) (by kernel_rfl) (by kernel_rfl) ?hQ23 ?hy23 (by assumption) ?rest23; (case hi23 => simp only [List.getElem?_toArray, List.getElem?_cons_zero, List.getElem?_cons_succ]; rfl); (case hQ23 => exact fun _ _ _ h => h); (case hy23 => refine Or.inl ⟨by rfl, ?_⟩; intro wz hSw; (try dsimp only at hSw); go_simp; try with_reducible rfl); try simp only [Act.put, List.setIfInBounds_toArray, List.set_cons_zero, List.set_cons_succ])
              (refine' wpAnyT_take 12 13 (oi := ?oi24) (v := ?v24) ?hi24 (by kernel_rfl) (by kernel_rfl) (by kernel_rfl) (by kernel_rfl) (by kernel_rfl) (by kernel_rfl) ?hQ24 ?hy24 (by assumption) ?rest24; (case hi24 => simp only [List.getElem?_toArray, List.getElem?_cons_zero, List.getElem?_cons_succ]; rfl); (case hQ24 => exact fun _ _ _ h => h); (case hy24 => refine Or.inl ⟨by rfl, ?_⟩; intro wz hSw; (try dsimp only at hSw); go_simp; try with_reducible rfl); try simp only [Act.put, List.setIfInBounds_toArray, List.set_cons_zero, List.set_cons_succ])
              refine wpAnyT_done (by kernel_rfl) ?_ _
              go_wp2_with fail
              go_ret
              exact ⟨rfl, HS9.out.b⟩
          · (refine' AllReadyT.cons (o := ?o41) ?ho41 (fun K hK => ?step41) AllReadyT.nil; (case ho41 => simp only [List.getElem?_toArray, List.getElem?_cons_zero, List.getElem?_cons_succ]; rfl))
            go_simp
            have haY1 := heap_alloc_new Y0 (.cells #[.int .i64 (-1), .int .i8 0, .int .i64 (-1)] 40)
            have hzY1 : Y0.heap.size + 1 ≤ (Y0.alloc (.cells #[.int .i64 (-1), .int .i8 0, .int .i64 (-1)] 40)).heap.size ∧ (Y0.alloc (.cells #[.int .i64 (-1), .int .i8 0, .int .i64 (-1)] 40)).heap.size ≤ Y0.heap.size + 1 := by simp
            have hbY1 : Below Y0.heap.size Y0 (Y0.alloc (.cells #[.int .i64 (-1), .int .i8 0, .int .i64 (-1)] 40)) := bl_alloc (Below.refl _ _)
            obtain ⟨Y1, hY1⟩ : ∃ Y, Y = Y0.alloc (.cells #[.int .i64 (-1), .int .i8 0, .int .i64 (-1)] 40) := ⟨_, rfl⟩
            rw [← hY1] at haY1 hzY1 hbY1 ⊢
            have HBY1 := Lib.hid (bl_trans HBY0.out hbY1)
            have HSY1 := Lib.hid (HSY.out.step HBY1.out)
            clear hY1
            refine hK.out _ _ (fun _ _ => ⟨HSY1.out.x.2.1, HSY1.out.x.2.2.1, HSY1.out.x.2.2.2⟩) (fun hHd => ?_)
            have hHeld := hHd (by decide) (by decide)
            clear hHd hK K
            try simp only [Act.put, List.setIfInBounds_toArray, List.set_cons_zero, List.set_cons_succ]
            refine wpAnyT_ready (rs := [2]) (by kernel_rfl) (by simp) ?_
            (refine' AllReadyT.cons (o := ?o42) ?ho42 (fun K hK => ?step42) AllReadyT.nil; (case ho42 => simp only [List.getElem?_toArray, List.getElem?_cons_zero, List.getElem?_cons_succ]; rfl))
            go_simp
            have haY2 := heap_alloc_new Y1 (.cells #[] 40)
            have hzY2 : Y1.heap.size + 1 ≤ (Y1.alloc (.cells #[] 40)).heap.size ∧ (Y1.alloc (.cells #[] 40)).heap.size ≤ Y1.heap.size + 1 := by simp
            have hbY2 : Below Y1.heap.size Y1 (Y1.alloc (.cells #[] 40)) := bl_alloc (Below.refl _ _)
            obtain ⟨Y2, hY2⟩ : ∃ Y, Y = Y1.alloc (.cells #[] 40) := ⟨_, rfl⟩
            rw [← hY2] at haY2 hzY2 hbY2 ⊢
            have HBY2 := Lib.hid (bl_trans HBY1.out hbY2)
            have HSY2 := Lib.hid (HSY.out.step HBY2.out)
            have own0 : Y2.ownsRow Y0.heap.size 40 3 (.slice (some ⟨Y1.heap.size, 0, none⟩) 0 0) 0 [] := by rw [hY2]; exact World.ownsRow_made Y1 #[] 0 (by first | exact Nat.le_refl _ | omega) (by simp [maxLen]) rfl
            clear hY2
            refine hK.out _ _ (fun _ _ => ⟨HSY2.out.x.2.1, HSY2.out.x.2.2.1, HSY2.out.x.2.2.2⟩) (fun hHd => ?_)
            have hHeld := hHd (by decide) (by decide)
            clear hHd hK K
            try simp only [Act.put, List.setIfInBounds_toArray, List.set_cons_zero, List.set_cons_succ]
            refine wpAnyT_ready (rs := [4]) (by kernel_rfl) (by simp) ?_
            (refine' AllReadyT.cons (o := ?o43) ?ho43 (fun K hK => ?step43) AllReadyT.nil; (case ho43 => simp only [List.getElem?_toArray, List.getElem?_cons_zero, List.getElem?_cons_succ]; rfl))
            refine step_append_lies _ (by rfl) _ _ _ (by rfl) Y0.heap.size 40 i0 _ 3 24 Try.underlying31 hi hi0 hi1 hi2 rfl (by omega) _ 0 [] (by rfl) own0 ⟨fb, fo, none⟩ fs.length fc (flat Fa.cells fs) (by rfl) (flat_length Fa.len fs) (HNEWS.out _ HBY2.out) (one_cells Fa.one fs) hz1 (by unfold maxLen; omega) (by omega) HBY2.out.size _ rfl ?_
            intro gg cap3 Y3 hown3 hgrow hat3 hlt3
            rw [Nat.zero_add, List.nil_append] at hown3
            rw [Nat.zero_add]
            have HBY3 := Lib.hid (bl_grown HBY2.out hgrow (fun q hq => by injection (show some Y1.heap.size = some q from hq) with e2; omega))
            have HSY3 := Lib.hid (HSY.out.step HBY3.out)
            have hk0 : Y2.heap[Y0.heap.size]? = _ := (hbY2.block Y0.heap.size (by omega)).trans haY1
            have hk1 := blk_kept hk0 hgrow (fun e => by injection (show some Y1.heap.size = some Y0.heap.size from e) with e2; omega)
            refine hK.out _ _ (fun _ _ => ⟨HSY3.out.x.2.1, HSY3.out.x.2.2.1, HSY3.out.x.2.2.2⟩) (fun hHd => ?_)
            have hHeld := hHd (by decide) (by decide)
            clear hHd hK K
            try simp only [Act.put, List.setIfInBounds_toArray, List.set_cons_zero, List.set_cons_succ]
            refine wpAnyT_ready (rs := [7]) (by kernel_rfl) (by simp) ?_
            (refine' AllReadyT.cons (o := ?o44) ?ho44 (fun K hK => ?step44) AllReadyT.nil; (case ho44 => simp only [List.getElem?_toArray, List.getElem?_cons_zero, List.getElem?_cons_succ]; rfl))
            refine step_append_lies _ (by rfl) _ _ _ (by rfl) Y0.heap.size 40 i0 _ 3 24 Try.underlying31 hi hi0 hi1 hi2 rfl (by omega) _ fs.length (flat Fa.cells fs) (by rfl) hown3 ⟨Y0.heap.size, 0, none⟩ 1 1 [.int .i64 (-1), .int .i8 0, .int .i64 (-1)] (by rfl) (by rfl) (World.news_of_block (cs := #[.int .i64 (-1), .int .i8 0, .int .i64 (-1)]) (t := 40) (fr := (0, 0)) hk1) (Fa.one stF) (by omega) (by unfold maxLen; omega) (by omega) HBY3.out.size _ rfl ?_
            intro gg2 cap4 Y4 hown4 hgrow4 hat4 hlt4
            have hcells : flat Fa.cells fs ++ [.int .i64 (-1), .int .i8 0, .int .i64 (-1)] = flat Fa.cells (fs ++ [stF]) := by rw [flat_append]; rfl
            rw [hcells] at hown4
            have HB4 := Lib.hid (bl_grown HBY3.out hgrow4 (fun q hq => (hown3.lt q hq).1))
            have HS4 := Lib.hid (HSY.out.step HB4.out)
            have HV4 : Hid (SV Fa.cells Y4 (.slice (some ⟨gg2, 0, none⟩) (fs.length + 1) cap4) (fs ++ [stF])) := Lib.hid (by
              have h5 : (fs ++ [stF]).length = fs.length + 1 := by simp
              have h6 := own_sv (f := Fa.cells) (xs := fs ++ [stF]) (v := .slice (some ⟨gg2, 0, none⟩) (fs.length + 1) cap4) (by rw [h5]; exact hown4)
              exact h6)
            refine hK.out _ _ (fun _ _ => ⟨HS4.out.x.2.1, HS4.out.x.2.2.1, HS4.out.x.2.2.2⟩) (fun hHd => ?_)
            have hHeld := hHd (by decide) (by decide)
            clear hHd hK K
            try simp only [Act.put, List.setIfInBounds_toArray, List.set_cons_zero, List.set_cons_succ]
            refine wpAnyT_ready (rs := [8]) (by kernel_rfl) (by simp) ?_
            (refine' AllReadyT.cons (o := ?o45) ?ho45 (fun K hK => ?step45) AllReadyT.nil; (case ho45 => simp only [List.getElem?_toArray, List.getElem?_cons_zero, List.getElem?_cons_succ]; rfl))
            go_simp
            refine (FKL.out Y4 HS4.out _ _ HV4.out).mono ?_
            rintro e Y9 ⟨rfl, hb9⟩
            have HS9 := Lib.hid (HS4.out.step hb9)
            refine hK.out _ _ (fun _ _ => ⟨HS9.out.x.2.1, HS9.out.x.2.2.1, HS9.out.x.2.2.2⟩) (fun hHd => ?_)
            have hHeld := hHd (by decide) (by decide)
            clear hHd hK K
            try simp only [Act.put, List.setIfInBounds_toArray, List.set_cons_zero, List.set_cons_succ]
            (refine' wpAnyT_take 12 9 (oi := ?oi25) (v := ?v25) ?hi25 (by kernel_rfl) (by kernel_rfl) (by kernel_rfl) (by kernel_rfl) (by kernel_rfl) (by kernel_rfl) ?hQ25 ?hy25 (by assumption) ?rest25; (case hi25 => simp only [List.getElem?_toArray, List.getElem?_cons_zero, List.getElem?_cons_succ]; rfl); (case hQ25 => exact fun _ _ _ h => h); (case hy25 => refine Or.inl ⟨by rfl, ?_⟩; intro wz hSw; (try dsimp only at hSw); go_simp; try with_reducible rfl); try simp only [Act.put, List.setIfInBounds_toArray, List.set_cons_zero, List.set_cons_succ])
            (refine' wpAnyT_take 12 10 (oi := ?oi26) (v := ?v26) ?hi26 (by kernel_rfl) (by kernel_rfl) (by kernel_rfl) (by kernel_rfl) (by kernel_rfl) (by kernel_rfl) ?hQ26 ?hy26 (by assumption) ?rest26; (case hi26 => simp only [List.getElem?_toArray, List.getElem?_cons_zero, List.getElem?_cons_succ]; rfl); (case hQ26 => exact fun _ _ _ h => h); (case hy26 => refine Or.inl ⟨by rfl, ?_⟩; intro wz hSw; (try dsimp only at hSw); go_simp; try with_reducible rfl); try simp only [Act.put, List.setIfInBounds_toArray, List.set_cons_zero, List.set_cons_succ])
            (refine' wpAnyT_take 12 11 (oi := ?oi27) (v := ?v27) ?hi27 (by kernel_rfl) (by kernel_rfl) (by kernel_rfl) (by kernel_rfl) (by kernel_rfl) (by kernel_rfl) ?hQ27 ?hy27 (by assumption) ?rest27; (case hi27 => simp only [List.getElem?_toArray, List.getElem?_cons_zero, List.getElem?_cons_succ]; rfl); (case hQ27 => exact fun _ _ _ h => h); (case hy27 => refine Or.inl ⟨by rfl, ?_⟩; intro wz hSw; (try dsimp only at hSw); go_simp; try with_reducible rfl); try simp only [Act.put, List.setIfInBounds_toArray, List.set_cons_zero, List.set_cons_succ])
            (refine' wpAnyT_take 12 12 (oi := ?oi28) (v := ?v28) ?hi28 (by kernel_rfl) (by kernel_rfl) (by kernel_rfl) (by kernel_rfl) (by kernel_rfl) (by kernel_rfl) ?hQ28 ?hy28 (by assumption) ?rest28; (case hi28 => simp only [List.getElem?_toArray, List.getElem?_cons_zero, List.getElem?_cons_succ]; rfl); (case hQ28 => exact fun _ _ _ h => h); (case hy28 => refine Or.inl ⟨by rfl, ?_⟩; intro wz hSw; (try dsimp only at hSw); go_simp; try with_reducible rfl); try simp only [Act.put, List.setIfInBounds_toArray, List.set_cons_zero, List.set_cons_succ])
            (refine' wpAnyT_take 12 13 (oi := ?oi29) (v := ?v29) ?hi29 (by kernel_rfl) (by kernel_rfl) (by kernel_rfl) (by kernel_rfl) (by kernel_rfl) (by kernel_rfl) ?hQ29 ?hy29 (by assumption) ?rest29; (case hi29 => simp only [List.getElem?_toArray, List.getElem?_cons_zero, List.getElem?_cons_succ]; rfl); (case hQ29 => exact fun _ _ _ h => h); (case hy29 => refine Or.inl ⟨by rfl, ?_⟩; intro wz hSw; (try dsimp only at hSw); go_simp; try with_reducible rfl); try simp only [Act.put, List.setIfInBounds_toArray, List.set_cons_zero, List.set_cons_succ])
            refine wpAnyT_done (by kernel_rfl) ?_ _
            go_wp2_with fail
            go_ret
            exact ⟨rfl, HS9.out.b⟩
end Go.Proofs.Ytmeefmoblkiebaa
