/- Plain words of this seat: boards, pieces, cells as numbers; how rows of memory read. -/
import Derived.WalkKit
import Derived.Deep.QuietTactic
import Derived.BigQuiet
import Derived.Deep.Light
import Derived.Lib.Hide
namespace Go.Proofs.Ytoldmgpdcenmhaa
open Go.RowKit

/-- Between two bounds. -/
def inB (n lo hi : Int) : Bool := decide (lo ≤ n) && decide (n ≤ hi)

/-- What is left of a size. -/
def szv (n : Nat) (left : Int) : Int := if left - n < 0 then -1 else left - n

/-- An int8. -/
def I8 (n : Int) : Prop := -128 ≤ n ∧ n ≤ 127

structure Ce where
  x : Int
  y : Int
  deriving Inhabited, DecidableEq

def Ce.ok (c : Ce) : Prop := I8 c.x ∧ I8 c.y

structure Pc where
  x : Int
  y : Int
  k : Int
  t : Int
  d : Int
  deriving Inhabited, DecidableEq

def Pc.ok (p : Pc) : Prop := (I8 p.x ∧ I8 p.y) ∧ I8 p.k ∧ I8 p.t ∧ I8 p.d
def Pc.at_ (p : Pc) : Ce := ⟨p.x, p.y⟩

def Ce.cells (c : Ce) : List Value := [.int .i8 c.x, .int .i8 c.y]
def Pc.cells (p : Pc) : List Value := [.int .i8 p.x, .int .i8 p.y, .int .i8 p.k, .int .i8 p.t, .int .i8 p.d]
abbrev Ce.val (c : Ce) : Value := .agg #[.int .i8 c.x, .int .i8 c.y]
abbrev Pc.val (p : Pc) : Value := .agg #[.int .i8 p.x, .int .i8 p.y, .int .i8 p.k, .int .i8 p.t, .int .i8 p.d]
theorem Ce.len (c : Ce) : c.cells.length = 2 := rfl
theorem Pc.len (p : Pc) : p.cells.length = 5 := rfl

/-- The cells of a list, one behind the other. -/
def flat {α : Type} (f : α → List Value) (l : List α) : List Value := l.flatMap f

theorem flat_nil {α : Type} (f : α → List Value) : flat f [] = [] := rfl
theorem flat_cons {α : Type} (f : α → List Value) (x : α) (l : List α) : flat f (x :: l) = f x ++ flat f l := by simp [flat]
theorem flat_append {α : Type} (f : α → List Value) (l m : List α) : flat f (l ++ m) = flat f l ++ flat f m := by simp [flat]
theorem flat_length {α : Type} {f : α → List Value} {s : Nat} (hs : ∀ x, (f x).length = s) (l : List α) : (flat f l).length = l.length * s := by
  induction l with
  | nil => simp [flat]
  | cons x l ih => rw [flat_cons, List.length_append, ih, hs, List.length_cons, Nat.succ_mul, Nat.add_comm]
theorem flat_get {α : Type} {f : α → List Value} {s : Nat} (hs : ∀ x, (f x).length = s) (l : List α) : ∀ (k c : Nat) (hk : k < l.length), c < s → (flat f l)[k * s + c]? = (f l[k])[c]? := by
  induction l with
  | nil => intro k c hk; simp at hk
  | cons x l ih =>
    intro k c hk hc
    rw [flat_cons]
    cases k with
    | zero => rw [Nat.zero_mul, Nat.zero_add, List.getElem?_append_left (by rw [hs]; exact hc)]; rfl
    | succ k =>
      rw [List.getElem?_append_right (by rw [hs, Nat.succ_mul]; omega), hs, show (k + 1) * s + c - s = k * s + c by rw [Nat.succ_mul]; omega]
      exact ih k c (by simpa using hk) hc

/-- A slice of these cells (its blocks lie below B). -/
def SlAt (B : Nat) (w : World) (a : Option Addr) (xs : List Value) : Prop :=
  ∀ j (h : j < xs.length), ∃ b off, a = some ⟨b, off, none⟩ ∧ b < B ∧ w.cell? ⟨b, off + j, none⟩ = some xs[j]

theorem SlAt.below {B B' : Nat} {w w' : World} {a : Option Addr} {xs : List Value} (hp : SlAt B w a xs) (h : Below B' w w') (hB : B ≤ B') : SlAt B w' a xs := by
  intro i hi
  obtain ⟨b, off, h1, h2, h3⟩ := hp i hi
  exact ⟨b, off, h1, h2, by rw [h.cell (p := ⟨b, _, none⟩) (Nat.lt_of_lt_of_le h2 hB)]; exact h3⟩

theorem SlAt.mono {B B' : Nat} {w : World} {a : Option Addr} {xs : List Value} (hp : SlAt B w a xs) (hB : B ≤ B') : SlAt B' w a xs := by
  intro i hi
  obtain ⟨b, off, h1, h2, h3⟩ := hp i hi
  exact ⟨b, off, h1, Nat.lt_of_lt_of_le h2 hB, h3⟩

theorem SlAt.get {α : Type} {f : α → List Value} {s : Nat} (hs : ∀ x, (f x).length = s) (h0 : 0 < s) {B : Nat} {w : World} {a : Option Addr} {l : List α} (h : SlAt B w a (flat f l)) {k : Nat} (hk : k < l.length) :
    ∃ b off, a = some ⟨b, off, none⟩ ∧ b < B ∧ ∀ c u, (f l[k])[c]? = some u → w.cell? ⟨b, off + k * s + c, none⟩ = some u := by
  have hL := flat_length hs l
  have hlt : ∀ c, c < s → k * s + c < (flat f l).length := by
    intro c hc
    rw [hL]
    have : (k + 1) * s ≤ l.length * s := Nat.mul_le_mul_right _ hk
    rw [Nat.succ_mul] at this; omega
  obtain ⟨b, off, h1, h2, -⟩ := h (k * s + 0) (hlt 0 h0)
  refine ⟨b, off, h1, h2, ?_⟩
  intro c u hu
  have hc : c < s := by
    have := (List.getElem?_eq_some_iff.1 hu).1
    rwa [hs] at this
  obtain ⟨b', off', h1', h2', h3'⟩ := h (k * s + c) (hlt c hc)
  rw [h1] at h1'
  simp only [Option.some.injEq, Addr.mk.injEq, and_true] at h1'
  obtain ⟨rfl, rfl⟩ := h1'
  rw [Nat.add_assoc, h3']
  have := flat_get hs l k c hk hc
  rw [hu] at this
  rw [List.getElem?_eq_getElem (hlt c hc)] at this
  exact this

def CeAt (w : World) (b off : Nat) (c : Ce) : Prop :=
  w.cell? ⟨b, off, none⟩ = some (.int .i8 c.x) ∧ w.cell? ⟨b, off + 1, none⟩ = some (.int .i8 c.y)

def PcAt (w : World) (b off : Nat) (p : Pc) : Prop :=
  w.cell? ⟨b, off, none⟩ = some (.int .i8 p.x) ∧ w.cell? ⟨b, off + 1, none⟩ = some (.int .i8 p.y) ∧
   w.cell? ⟨b, off + 2, none⟩ = some (.int .i8 p.k) ∧ w.cell? ⟨b, off + 3, none⟩ = some (.int .i8 p.t) ∧ w.cell? ⟨b, off + 4, none⟩ = some (.int .i8 p.d)

/-- A slice of pieces, of cells, that reads as a list; its blocks lie below B. -/
abbrev PcsAt (B : Nat) (w : World) (a : Option Addr) (ps : List Pc) : Prop := SlAt B w a (flat Pc.cells ps)
abbrev CesAt (B : Nat) (w : World) (a : Option Addr) (cs : List Ce) : Prop := SlAt B w a (flat Ce.cells cs)
def PcsOk (ps : List Pc) : Prop := ∀ k (h : k < ps.length), ps[k].ok
def CesOk (ps : List Ce) : Prop := ∀ k (h : k < ps.length), ps[k].ok

theorem pcs_get {B : Nat} {w : World} {a : Option Addr} {ps : List Pc} (h : PcsAt B w a ps) {k : Nat} (hk : k < ps.length) :
    ∃ b off, a = some ⟨b, off, none⟩ ∧ b < B ∧ PcAt w b (off + k * 5) ps[k] := by
  obtain ⟨b, off, h1, h2, h3⟩ := SlAt.get Pc.len (by omega) h hk
  exact ⟨b, off, h1, h2, h3 0 _ rfl, h3 1 _ rfl, h3 2 _ rfl, h3 3 _ rfl, h3 4 _ rfl⟩
theorem ces_get {B : Nat} {w : World} {a : Option Addr} {ps : List Ce} (h : CesAt B w a ps) {k : Nat} (hk : k < ps.length) :
    ∃ b off, a = some ⟨b, off, none⟩ ∧ b < B ∧ CeAt w b (off + k * 2) ps[k] := by
  obtain ⟨b, off, h1, h2, h3⟩ := SlAt.get Ce.len (by omega) h hk
  exact ⟨b, off, h1, h2, h3 0 _ rfl, h3 1 _ rfl⟩

/-- What is owned reads. -/
theorem own_at {w : World} {base : Nat} {e : TypeId} {size : Nat} {v : Value} {n : Nat} {xs : List Value} (h : w.ownsRow base e size v n xs) :
    ∃ a cap, v = .slice a n cap ∧ SlAt w.heap.size w a xs ∧ n ≤ cap ∧ n ≤ maxLen := by
  have hlt := h.lt
  obtain ⟨h0, h1⟩ := h
  rcases h1 with ⟨rfl, rfl⟩ | ⟨g, cap, cur, rfl, hg, hh, hn, hm, hs, ht⟩
  · exact ⟨none, 0, rfl, fun j hj => by simp [h0] at hj, Nat.le_refl _, by simp [maxLen]⟩
  · refine ⟨_, cap, rfl, fun j hj => ⟨g, 0, rfl, (hlt g rfl).2, ?_⟩, hn, by omega⟩
    rw [cell_of_row w g _ cur e (0, 0) hh]
    have := List.getElem?_eq_getElem hj
    rw [← this, ← ht, Nat.zero_add, List.getElem?_take, if_pos (by omega)]
    simp

/-- Stores, one behind the other, into an owned row. -/
def setCells (w : World) (g : Nat) : Nat → List Value → World
  | _, [] => w
  | j, u :: us => setCells (w.setCell ⟨g, j, none⟩ u) g (j + 1) us

theorem own_setCells {base : Nat} {e : TypeId} {size g n cap : Nat} : ∀ (us : List Value) {w : World} {A R : List Value} {j : Nat}, w.ownsRow base e size (.slice (some ⟨g, 0, none⟩) n cap) n (A ++ R) → A.length = j → us.length ≤ R.length →
    (setCells w g j us).ownsRow base e size (.slice (some ⟨g, 0, none⟩) n cap) n (A ++ us ++ R.drop us.length) := by
  intro us
  induction us with
  | nil => intro w A R j h _ _; simpa [setCells] using h
  | cons u us ih =>
    intro w A R j h hA hR
    cases R with
    | nil => simp at hR
    | cons r R =>
      have h1 := (h.stored j u).1
      rw [List.set_append, if_neg (by omega), show j - A.length = 0 by omega, List.set_cons_zero, List.append_cons] at h1
      have h2 := ih (j := j + 1) h1 (by simp [hA]) (by simpa using hR)
      simpa [setCells, List.append_assoc] using h2

theorem grown_trans {a b c : World} {row : Option Nat} (h : a.grownBy b row) (k : b.grownBy c row) : a.grownBy c row :=
  ⟨k.os.trans h.os, k.tape.trans h.tape, k.output.trans h.output, Nat.le_trans h.size k.size, fun i hi hne => (k.block i (Nat.lt_of_lt_of_le hi h.size) hne).trans (h.block i hi hne)⟩

theorem grown_setCells (g : Nat) : ∀ (us : List Value) (w : World) (j : Nat), w.grownBy (setCells w g j us) (some g)
  | [], w, _ => World.grownBy.refl _ _
  | u :: us, w, j => by
    have h1 : w.grownBy (w.setCell ⟨g, j, none⟩ u) (some g) := ⟨rfl, rfl, rfl, by simp, fun k _ hk => heap_setCell_other w ⟨g, j, none⟩ k u (fun e => hk (by simp [e]))⟩
    exact grown_trans h1 (grown_setCells g us _ (j + 1))

/-- What is owned in another block stays while a row is written. -/
theorem own_kept {w w' : World} {base : Nat} {e : TypeId} {size : Nat} {v : Value} {n : Nat} {xs : List Value} {row : Option Nat} (h : w.ownsRow base e size v n xs) (hg : w.grownBy w' row) (hne : ∀ k, v.ownBlock = some k → some k ≠ row) : w'.ownsRow base e size v n xs :=
  h.kept hg (by cases hv : v.ownBlock with | none => exact .inl rfl | some k => exact .inr (hne k hv))

theorem sl_kept {B : Nat} {w w' : World} {a : Option Addr} {xs : List Value} {row : Option Nat} (hp : SlAt B w a xs) (hg : w.grownBy w' row) (hne : ∀ k, row = some k → B ≤ k) : SlAt B w' a xs := by
  intro i hi
  obtain ⟨b, off, h1, h2, h3⟩ := hp i hi
  exact ⟨b, off, h1, h2, hg.cell h3 (fun e => by have := hne b e.symm; omega)⟩

theorem own_cell {base : Nat} {e : TypeId} {size g n cap : Nat} {w : World} {xs : List Value} (h : w.ownsRow base e size (.slice (some ⟨g, 0, none⟩) n cap) n xs) {j : Nat} (hj : j < n * size) :
    (∃ v, w.cell? ⟨g, j, none⟩ = some v) ∧ w.frozen? ⟨g, j, none⟩ = false := by
  refine ⟨?_, h.frozenAt j⟩
  rw [h.cellAt j hj]
  exact ⟨_, List.getElem?_eq_getElem (by rw [h.1]; exact hj)⟩

theorem own_below {base B : Nat} {e : TypeId} {size n : Nat} {v : Value} {w w' : World} {xs : List Value} (h : w.ownsRow base e size v n xs) (hb : Below B w w') (hB : w.heap.size ≤ B) : w'.ownsRow base e size v n xs := by
  refine ⟨h.1, ?_⟩
  have hlt := h.lt
  rcases h.2 with hn | ⟨g, cap, cur, rfl, hb', hgg, rest⟩
  · exact .inl hn
  · exact .inr ⟨g, cap, cur, rfl, hb', by rw [hb.block g (by have := (hlt g rfl).2; omega)]; exact hgg, rest⟩

theorem wrap_i8 {n : Int} (h1 : -128 ≤ n) (h2 : n ≤ 127) : wrap64 n = n := by unfold wrap64; omega
theorem dec_cases (p : Prop) [Decidable p] : (decide p = true ∧ p) ∨ (decide p = false ∧ ¬ p) := by by_cases h : p <;> simp [h]
theorem ret_bool {a b : Bool} (h : a = true ↔ b = true) : Ending.returned (.bool a) = Ending.returned (.bool b) := by rw [Bool.eq_iff_iff.2 h]
theorem ret_int {k : IntKind} {a b : Int} (h : a = b) : Ending.returned (.int k a) = Ending.returned (.int k b) := by rw [h]

theorem own_mono {w : World} {base base' : Nat} {e : TypeId} {size : Nat} {v : Value} {n : Nat} {xs : List Value} (h : w.ownsRow base' e size v n xs) (hb : base ≤ base') : w.ownsRow base e size v n xs := by
  refine ⟨h.1, ?_⟩
  rcases h.2 with hn | ⟨g, cap, cur, hv, hg, rest⟩
  · exact .inl hn
  · exact .inr ⟨g, cap, cur, hv, Nat.le_trans hb hg, rest⟩

theorem cell_alloc (w : World) (o : Obj) (b off : Nat) (h : b < w.heap.size) : (w.alloc o).cell? ⟨b, off, none⟩ = w.cell? ⟨b, off, none⟩ := World.cell?_alloc_old w o ⟨b, off, none⟩ (show b ≠ w.heap.size by omega)

theorem bcell {W w1 : World} (hb : Below W.heap.size W w1) : (∀ b o, b < W.heap.size → w1.cell? ⟨b, o, none⟩ = W.cell? ⟨b, o, none⟩) ∧ (∀ b o, b < W.heap.size → w1.frozen? ⟨b, o, none⟩ = W.frozen? ⟨b, o, none⟩) :=
  ⟨fun b o h => hb.cell (p := ⟨b, o, none⟩) h, fun b o h => hb.frozen (p := ⟨b, o, none⟩) h⟩

theorem bl_drewN {a w : World} (h : Below a.heap.size a w) {n : Nat} : Below a.heap.size a (w.drewN n) := h.trans ⟨rfl, rfl, rfl, Nat.le_refl _, fun _ _ => rfl⟩
theorem bl_drew {a w : World} (h : Below a.heap.size a w) : Below a.heap.size a w.drew := h.drew
theorem bl_alloc {a w : World} (h : Below a.heap.size a w) {o : Obj} : Below a.heap.size a (w.alloc o) := h.alloc h.size o
theorem bl_set {a w : World} (h : Below a.heap.size a w) {p : Addr} (hp : a.heap.size ≤ p.block) (u : Value) : Below a.heap.size a (w.setCell p u) := h.setCell hp u
theorem bl_trans {a w w' : World} (h : Below a.heap.size a w) (k : Below w.heap.size w w') : Below a.heap.size a w' := h.trans (k.mono h.size)
theorem bl_grown {a w w' : World} {row : Option Nat} (h : Below a.heap.size a w) (hg : w.grownBy w' row) (hr : ∀ k, row = some k → a.heap.size ≤ k) : Below a.heap.size a w' := h.grown hg h.size hr

/-- The worlds that have the old blocks of W as they were. -/
structure Ext (W : World) where
  w : World
  b : Below W.heap.size W w

instance ext_some (W : World) : Nonempty (Ext W) := ⟨⟨W, Below.refl _ _⟩⟩

theorem ext_cell {W : World} (u : Ext W) (b o : Nat) (h : b < W.heap.size) : u.w.cell? ⟨b, o, none⟩ = W.cell? ⟨b, o, none⟩ := u.b.cell (p := ⟨b, o, none⟩) h

theorem ext_call {P : Program} {f : FuncId} {args : Array Value} {W : World} {u : Ext W} {v : Value}
    (h : Calls P f args u.w fun e w' => e = .returned v ∧ Below u.w.heap.size u.w w') : Calls P f args u.w fun e w'' => e = .returned v ∧ ∃ u' : Ext W, w'' = u'.w :=
  h.mono fun _ _ ⟨he, hb⟩ => ⟨he, ⟨_, bl_trans u.b hb⟩, rfl⟩

theorem ext_same {P : Program} {f : FuncId} {args : Array Value} {W : World} {u : Ext W} {v : Value}
    (h : Calls P f args u.w fun e w' => e = .returned v ∧ u.w = w') : Calls P f args u.w fun e w'' => e = .returned v ∧ ∃ u' : Ext W, w'' = u'.w :=
  h.mono fun _ _ ⟨he, hb⟩ => ⟨he, u, hb.symm⟩

/-- A region that draws its order, whose operations read, make new blocks or call what does so: one walk in the order of the text. -/
theorem wp_region_ext {P : Program} {id : Nat} {Q : Exit → Act → World → Prop} {a : Act} {w : World} {l : List Oper} (hm : P.follows .mixedOrders = true) (hB : Region.lexB .any l.toArray = true)
    (h : wpQuiet P l.toArray (fun w' => ∃ u : Ext w, w' = u.w) (fun a' => ∀ w', (∃ u : Ext w, w' = u.w) → Q .normal a' w') l a) : (Code.region id l.toArray true).wp P Q a w :=
  wp_region_quiet (C := fun w' => ∃ u : Ext w, w' = u.w) hm hB ⟨⟨_, bl_drew (Below.refl _ _)⟩, rfl⟩ (by simpa using h)

theorem run_append_nothing {P : Program} (w : World) (base : Nat) (t ty e : TypeId) (i : TypeInfo) (size : Nat) (ht : P.underlying t = some (.slice e)) (hi : P.info? e = some i)
    (v : Value) (n : Nat) (xs : List Value) (hown : w.ownsRow base e size v n xs) (c : Nat) :
    (Builtin.append_ #[t, t] ty #[v, .slice none 0 c]).run P w = .ok v w := by
  rcases hown.2 with ⟨rfl, rfl⟩ | ⟨g, cap, cur, rfl, _, _, hnc, _⟩
  · simp [Builtin.append_, run_underlying ht, sizeOf, typeInfo, hi, Builtin.lenOf, Builtin.firstCells]
  · simp [Builtin.append_, run_underlying ht, sizeOf, typeInfo, hi, Builtin.lenOf, Builtin.firstCells, hnc, storeCells]

/-- 'append(v, x...)', v the call's own, x any slice that reads as 'news'. -/
theorem wpList_append_sl {P : Program} (w : World) {ops : Array Oper} {rest : List Oper} {o : Oper} {a : Act} {Q : Exit → Act → World → Prop} (hgd : o.guard = none) (s x : Operand) (t : TypeId)
    (ho : o.op = .call { callee := .builtin .append, args := #[s, x], argTypes := #[t, t] })
    (base : Nat) (e : TypeId) (i : TypeInfo) (z : Value) (size bytes : Nat) (ht : P.underlying t = some (.slice e)) (hi : P.info? e = some i) (hz : i.zero = some z)
    (hsize : i.size = size) (hby : i.bytes = bytes) (hzs : z.cells.size = size) (hsz : 0 < size)
    (v : Value) (n : Nat) (xs : List Value) (hs : a.eval s = v) (hown : w.ownsRow base e size v n xs)
    (ad : Option Addr) (m c : Nat) (news : List Value) (hx : a.eval x = .slice ad m c) {B : Nat} (hsl : SlAt B w ad news) (hl : news.length = m * size) (h1 : ∀ u ∈ news, u.oneCell' = true)
    (h63 : n + m ≤ maxLen) (hbytes : (n + m) * bytes ≤ 140737488355328) (hbase : base ≤ w.heap.size)
    (h : ∀ v' w', w'.ownsRow base e size v' (n + m) (xs ++ news) → w.grownBy w' v.ownBlock → wpList P ops Q rest (a.put o.dst v') w') : wpList P ops Q (o :: rest) a w := by
  cases ad with
  | none =>
    have hn : news = [] := by
      cases news with
      | nil => rfl
      | cons u us => obtain ⟨b, off, h0, -⟩ := hsl 0 (by simp); cases h0
    subst hn
    have hm : m = 0 := by
      have h2 : m * size = 0 := by simpa using hl.symm
      rcases Nat.mul_eq_zero.1 h2 with h3 | h3
      · exact h3
      · omega
    subst hm
    refine wpList_plain hgd fun K hK => ?_
    have hr := run_append_nothing (P := P) w base t o.type e i size ht hi v n xs hown c
    unfold Oper.wp execOp
    simp only [ho, resolve, invoke, builtin, Sem.run_bind, Sem.run_pure, Result.andThen_ok, List.map_toArray, List.map_cons, List.map_nil, hs, hx, hr]
    exact hK _ _ (h v w (by simpa using hown) (World.grownBy.refl _ _))
  | some ad =>
    refine wpList_append_own w hgd s x t ho base e i z size bytes ht hi hz hsize hby hzs hsz v n xs hs hown ad m c news hx hl ?_ h1 h63 hbytes hbase fun v' w' h2 h3 _ => h v' w' h2 h3
    intro j u hu
    have hj : j < news.length := (List.getElem?_eq_some_iff.1 hu).1
    obtain ⟨b, off, h0, -, h3⟩ := hsl j hj
    cases h0
    rw [List.getElem?_eq_getElem hj] at hu
    cases hu
    have : (⟨b, off, none⟩ : Addr).add j = ⟨b, off + j, none⟩ := by unfold Addr.add; split <;> simp_all
    rw [this]; exact h3

theorem one_cells {α : Type} {f : α → List Value} (h : ∀ x, ∀ u ∈ f x, u.oneCell' = true) (l : List α) : ∀ u ∈ flat f l, u.oneCell' = true := by
  intro u hu
  simp only [flat, List.mem_flatMap] at hu
  obtain ⟨x, -, hx⟩ := hu
  exact h x u hx
theorem Pc.one (p : Pc) : ∀ u ∈ p.cells, u.oneCell' = true := by
  intro u hu
  simp only [Pc.cells, List.mem_cons, List.not_mem_nil, or_false] at hu
  rcases hu with rfl | rfl | rfl | rfl | rfl <;> rfl
theorem Ce.one (p : Ce) : ∀ u ∈ p.cells, u.oneCell' = true := by
  intro u hu
  simp only [Ce.cells, List.mem_cons, List.not_mem_nil, or_false] at hu
  rcases hu with rfl | rfl <;> rfl

end Go.Proofs.Ytoldmgpdcenmhaa
