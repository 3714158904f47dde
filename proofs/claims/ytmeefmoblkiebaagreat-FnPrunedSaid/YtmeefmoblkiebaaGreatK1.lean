import Derived.WalkKit
import Derived.Deep.QuietTactic
import Derived.BigQuiet
import Derived.Deep.Light
import Derived.Lib.Hide
import Derived.ProofKit
import Derived.OpenShut
import Derived.Deep.Slices
import Derived.Test.YtmeefmoblkiebaaGreatProg
import Derived.WalkSpells
import Derived.WalkLawsBesides
import Derived.StillTailTactics
import Derived.Lib.SliceRun
import Derived.Maps.OwnOps
import Derived.DeepKeys3
import Derived.Deep.WholeRow
import Derived.Carry
import Derived.IntWalk
/- Plain words of this seat: boards, pieces, cells as numbers; how rows of memory read. -/
namespace Go.Proofs.YtmeefmoblkiebaaGreat
open Go.RowKit

/-- Between two bounds. -/
def inB (n lo hi : Int) : Bool := decide (lo ≤ n) && decide (n ≤ hi)

/-- An int8. -/
def I8 (n : Int) : Prop := -128 ≤ n ∧ n ≤ 127

structure Ce where
  x : Int
  y : Int
  deriving Inhabited, DecidableEq

def Ce.ok (c : Ce) : Prop := I8 c.x ∧ I8 c.y

structure Pc where
  x : Int
  y : Int
  k : Int
  t : Int
  d : Int
  deriving Inhabited, DecidableEq

def Pc.ok (p : Pc) : Prop := (I8 p.x ∧ I8 p.y) ∧ I8 p.k ∧ I8 p.t ∧ I8 p.d
def Pc.at_ (p : Pc) : Ce := ⟨p.x, p.y⟩

def Ce.cells (c : Ce) : List Value := [.int .i8 c.x, .int .i8 c.y]
def Pc.cells (p : Pc) : List Value := [.int .i8 p.x, .int .i8 p.y, .int .i8 p.k, .int .i8 p.t, .int .i8 p.d]
abbrev Ce.val (c : Ce) : Value := .agg #[.int .i8 c.x, .int .i8 c.y]
abbrev Pc.val (p : Pc) : Value := .agg #[.int .i8 p.x, .int .i8 p.y, .int .i8 p.k, .int .i8 p.t, .int .i8 p.d]
theorem Ce.len (c : Ce) : c.cells.length = 2 := rfl
theorem Pc.len (p : Pc) : p.cells.length = 5 := rfl

/-- The cells of a list, one behind the other. -/
def flat {α : Type} (f : α → List Value) (l : List α) : List Value := l.flatMap f

theorem flat_nil {α : Type} (f : α → List Value) : flat f [] = [] := rfl
theorem flat_cons {α : Type} (f : α → List Value) (x : α) (l : List α) : flat f (x :: l) = f x ++ flat f l := by simp [flat]
theorem flat_append {α : Type} (f : α → List Value) (l m : List α) : flat f (l ++ m) = flat f l ++ flat f m := by simp [flat]
theorem flat_length {α : Type} {f : α → List Value} {s : Nat} (hs : ∀ x, (f x).length = s) (l : List α) : (flat f l).length = l.length * s := by
  induction l with
  | nil => simp [flat]
  | cons x l ih => rw [flat_cons, List.length_append, ih, hs, List.length_cons, Nat.succ_mul, Nat.add_comm]
theorem flat_get {α : Type} {f : α → List Value} {s : Nat} (hs : ∀ x, (f x).length = s) (l : List α) : ∀ (k c : Nat) (hk : k < l.length), c < s → (flat f l)[k * s + c]? = (f l[k])[c]? := by
  induction l with
  | nil => intro k c hk; simp at hk
  | cons x l ih =>
    intro k c hk hc
    rw [flat_cons]
    cases k with
    | zero => rw [Nat.zero_mul, Nat.zero_add, List.getElem?_append_left (by rw [hs]; exact hc)]; rfl
    | succ k =>
      rw [List.getElem?_append_right (by rw [hs, Nat.succ_mul]; omega), hs, show (k + 1) * s + c - s = k * s + c by rw [Nat.succ_mul]; omega]
      exact ih k c (by simpa using hk) hc

/-- A slice of these cells (its blocks lie below B). -/
def SlAt (B : Nat) (w : World) (a : Option Addr) (xs : List Value) : Prop :=
  ∀ j (h : j < xs.length), ∃ b off, a = some ⟨b, off, none⟩ ∧ b < B ∧ w.cell? ⟨b, off + j, none⟩ = some xs[j]

theorem SlAt.below {B B' : Nat} {w w' : World} {a : Option Addr} {xs : List Value} (hp : SlAt B w a xs) (h : Below B' w w') (hB : B ≤ B') : SlAt B w' a xs := by
  intro i hi
  obtain ⟨b, off, h1, h2, h3⟩ := hp i hi
  exact ⟨b, off, h1, h2, by rw [h.cell (p := ⟨b, _, none⟩) (Nat.lt_of_lt_of_le h2 hB)]; exact h3⟩

theorem SlAt.mono {B B' : Nat} {w : World} {a : Option Addr} {xs : List Value} (hp : SlAt B w a xs) (hB : B ≤ B') : SlAt B' w a xs := by
  intro i hi
  obtain ⟨b, off, h1, h2, h3⟩ := hp i hi
  exact ⟨b, off, h1, Nat.lt_of_lt_of_le h2 hB, h3⟩

theorem SlAt.get {α : Type} {f : α → List Value} {s : Nat} (hs : ∀ x, (f x).length = s) (h0 : 0 < s) {B : Nat} {w : World} {a : Option Addr} {l : List α} (h : SlAt B w a (flat f l)) {k : Nat} (hk : k < l.length) :
    ∃ b off, a = some ⟨b, off, none⟩ ∧ b < B ∧ ∀ c u, (f l[k])[c]? = some u → w.cell? ⟨b, off + k * s + c, none⟩ = some u := by
  have hL := flat_length hs l
  have hlt : ∀ c, c < s → k * s + c < (flat f l).length := by
    intro c hc
    rw [hL]
    have : (k + 1) * s ≤ l.length * s := Nat.mul_le_mul_right _ hk
    rw [Nat.succ_mul] at this; omega
  obtain ⟨b, off, h1, h2, -⟩ := h (k * s + 0) (hlt 0 h0)
  refine ⟨b, off, h1, h2, ?_⟩
  intro c u hu
  have hc : c < s := by
    have := (List.getElem?_eq_some_iff.1 hu).1
    rwa [hs] at this
  obtain ⟨b', off', h1', h2', h3'⟩ := h (k * s + c) (hlt c hc)
  rw [h1] at h1'
  simp only [Option.some.injEq, Addr.mk.injEq, and_true] at h1'
  obtain ⟨rfl, rfl⟩ := h1'
  rw [Nat.add_assoc, h3']
  have := flat_get hs l k c hk hc
  rw [hu] at this
  rw [List.getElem?_eq_getElem (hlt c hc)] at this
  exact this

def CeAt (w : World) (b off : Nat) (c : Ce) : Prop :=
  w.cell? ⟨b, off, none⟩ = some (.int .i8 c.x) ∧ w.cell? ⟨b, off + 1, none⟩ = some (.int .i8 c.y)

def PcAt (w : World) (b off : Nat) (p : Pc) : Prop :=
  w.cell? ⟨b, off, none⟩ = some (.int .i8 p.x) ∧ w.cell? ⟨b, off + 1, none⟩ = some (.int .i8 p.y) ∧
   w.cell? ⟨b, off + 2, none⟩ = some (.int .i8 p.k) ∧ w.cell? ⟨b, off + 3, none⟩ = some (.int .i8 p.t) ∧ w.cell? ⟨b, off + 4, none⟩ = some (.int .i8 p.d)

/-- A slice of pieces, of cells, that reads as a list; its blocks lie below B. -/
abbrev PcsAt (B : Nat) (w : World) (a : Option Addr) (ps : List Pc) : Prop := SlAt B w a (flat Pc.cells ps)
abbrev CesAt (B : Nat) (w : World) (a : Option Addr) (cs : List Ce) : Prop := SlAt B w a (flat Ce.cells cs)
def PcsOk (ps : List Pc) : Prop := ∀ k (h : k < ps.length), ps[k].ok
def CesOk (ps : List Ce) : Prop := ∀ k (h : k < ps.length), ps[k].ok

theorem pcs_get {B : Nat} {w : World} {a : Option Addr} {ps : List Pc} (h : PcsAt B w a ps) {k : Nat} (hk : k < ps.length) :
    ∃ b off, a = some ⟨b, off, none⟩ ∧ b < B ∧ PcAt w b (off + k * 5) ps[k] := by
  obtain ⟨b, off, h1, h2, h3⟩ := SlAt.get Pc.len (by omega) h hk
  exact ⟨b, off, h1, h2, h3 0 _ rfl, h3 1 _ rfl, h3 2 _ rfl, h3 3 _ rfl, h3 4 _ rfl⟩
theorem ces_get {B : Nat} {w : World} {a : Option Addr} {ps : List Ce} (h : CesAt B w a ps) {k : Nat} (hk : k < ps.length) :
    ∃ b off, a = some ⟨b, off, none⟩ ∧ b < B ∧ CeAt w b (off + k * 2) ps[k] := by
  obtain ⟨b, off, h1, h2, h3⟩ := SlAt.get Ce.len (by omega) h hk
  exact ⟨b, off, h1, h2, h3 0 _ rfl, h3 1 _ rfl⟩

/-- What is owned reads. -/
theorem own_at {w : World} {base : Nat} {e : TypeId} {size : Nat} {v : Value} {n : Nat} {xs : List Value} (h : w.ownsRow base e size v n xs) :
    ∃ a cap, v = .slice a n cap ∧ SlAt w.heap.size w a xs ∧ n ≤ cap ∧ n ≤ maxLen := by
  have hlt := h.lt
  obtain ⟨h0, h1⟩ := h
  rcases h1 with ⟨rfl, rfl⟩ | ⟨g, cap, cur, rfl, hg, hh, hn, hm, hs, ht⟩
  · exact ⟨none, 0, rfl, fun j hj => by simp [h0] at hj, Nat.le_refl _, by simp [maxLen]⟩
  · refine ⟨_, cap, rfl, fun j hj => ⟨g, 0, rfl, (hlt g rfl).2, ?_⟩, hn, by omega⟩
    rw [cell_of_row w g _ cur e (0, 0) hh]
    have := List.getElem?_eq_getElem hj
    rw [← this, ← ht, Nat.zero_add, List.getElem?_take, if_pos (by omega)]
    simp

/-- Stores, one behind the other, into an owned row. -/
def setCells (w : World) (g : Nat) : Nat → List Value → World
  | _, [] => w
  | j, u :: us => setCells (w.setCell ⟨g, j, none⟩ u) g (j + 1) us

theorem own_setCells {base : Nat} {e : TypeId} {size g n cap : Nat} : ∀ (us : List Value) {w : World} {A R : List Value} {j : Nat}, w.ownsRow base e size (.slice (some ⟨g, 0, none⟩) n cap) n (A ++ R) → A.length = j → us.length ≤ R.length →
    (setCells w g j us).ownsRow base e size (.slice (some ⟨g, 0, none⟩) n cap) n (A ++ us ++ R.drop us.length) := by
  intro us
  induction us with
  | nil => intro w A R j h _ _; simpa [setCells] using h
  | cons u us ih =>
    intro w A R j h hA hR
    cases R with
    | nil => simp at hR
    | cons r R =>
      have h1 := (h.stored j u).1
      rw [List.set_append, if_neg (by omega), show j - A.length = 0 by omega, List.set_cons_zero, List.append_cons] at h1
      have h2 := ih (j := j + 1) h1 (by simp [hA]) (by simpa using hR)
      simpa [setCells, List.append_assoc] using h2

theorem grown_trans {a b c : World} {row : Option Nat} (h : a.grownBy b row) (k : b.grownBy c row) : a.grownBy c row :=
  ⟨k.os.trans h.os, k.tape.trans h.tape, k.output.trans h.output, Nat.le_trans h.size k.size, fun i hi hne => (k.block i (Nat.lt_of_lt_of_le hi h.size) hne).trans (h.block i hi hne)⟩

theorem grown_setCells (g : Nat) : ∀ (us : List Value) (w : World) (j : Nat), w.grownBy (setCells w g j us) (some g)
  | [], w, _ => World.grownBy.refl _ _
  | u :: us, w, j => by
    have h1 : w.grownBy (w.setCell ⟨g, j, none⟩ u) (some g) := ⟨rfl, rfl, rfl, by simp, fun k _ hk => heap_setCell_other w ⟨g, j, none⟩ k u (fun e => hk (by simp [e]))⟩
    exact grown_trans h1 (grown_setCells g us _ (j + 1))

/-- What is owned in another block stays while a row is written. -/
theorem own_kept {w w' : World} {base : Nat} {e : TypeId} {size : Nat} {v : Value} {n : Nat} {xs : List Value} {row : Option Nat} (h : w.ownsRow base e size v n xs) (hg : w.grownBy w' row) (hne : ∀ k, v.ownBlock = some k → some k ≠ row) : w'.ownsRow base e size v n xs :=
  h.kept hg (by cases hv : v.ownBlock with | none => exact .inl rfl | some k => exact .inr (hne k hv))

theorem own_cell {base : Nat} {e : TypeId} {size g n cap : Nat} {w : World} {xs : List Value} (h : w.ownsRow base e size (.slice (some ⟨g, 0, none⟩) n cap) n xs) {j : Nat} (hj : j < n * size) :
    (∃ v, w.cell? ⟨g, j, none⟩ = some v) ∧ w.frozen? ⟨g, j, none⟩ = false := by
  refine ⟨?_, h.frozenAt j⟩
  rw [h.cellAt j hj]
  exact ⟨_, List.getElem?_eq_getElem (by rw [h.1]; exact hj)⟩

theorem own_below {base B : Nat} {e : TypeId} {size n : Nat} {v : Value} {w w' : World} {xs : List Value} (h : w.ownsRow base e size v n xs) (hb : Below B w w') (hB : w.heap.size ≤ B) : w'.ownsRow base e size v n xs := by
  refine ⟨h.1, ?_⟩
  have hlt := h.lt
  rcases h.2 with hn | ⟨g, cap, cur, rfl, hb', hgg, rest⟩
  · exact .inl hn
  · exact .inr ⟨g, cap, cur, rfl, hb', by rw [hb.block g (by have := (hlt g rfl).2; omega)]; exact hgg, rest⟩

theorem wrap_i8 {n : Int} (h1 : -128 ≤ n) (h2 : n ≤ 127) : wrap64 n = n := by unfold wrap64; omega
theorem dec_cases (p : Prop) [Decidable p] : (decide p = true ∧ p) ∨ (decide p = false ∧ ¬ p) := by by_cases h : p <;> simp [h]
theorem ret_bool {a b : Bool} (h : a = true ↔ b = true) : Ending.returned (.bool a) = Ending.returned (.bool b) := by rw [Bool.eq_iff_iff.2 h]
theorem own_mono {w : World} {base base' : Nat} {e : TypeId} {size : Nat} {v : Value} {n : Nat} {xs : List Value} (h : w.ownsRow base' e size v n xs) (hb : base ≤ base') : w.ownsRow base e size v n xs := by
  refine ⟨h.1, ?_⟩
  rcases h.2 with hn | ⟨g, cap, cur, hv, hg, rest⟩
  · exact .inl hn
  · exact .inr ⟨g, cap, cur, hv, Nat.le_trans hb hg, rest⟩

theorem cell_alloc (w : World) (o : Obj) (b off : Nat) (h : b < w.heap.size) : (w.alloc o).cell? ⟨b, off, none⟩ = w.cell? ⟨b, off, none⟩ := World.cell?_alloc_old w o ⟨b, off, none⟩ (show b ≠ w.heap.size by omega)

theorem bcell {W w1 : World} (hb : Below W.heap.size W w1) : (∀ b o, b < W.heap.size → w1.cell? ⟨b, o, none⟩ = W.cell? ⟨b, o, none⟩) ∧ (∀ b o, b < W.heap.size → w1.frozen? ⟨b, o, none⟩ = W.frozen? ⟨b, o, none⟩) :=
  ⟨fun b o h => hb.cell (p := ⟨b, o, none⟩) h, fun b o h => hb.frozen (p := ⟨b, o, none⟩) h⟩

theorem bl_drewN {a w : World} (h : Below a.heap.size a w) {n : Nat} : Below a.heap.size a (w.drewN n) := h.trans ⟨rfl, rfl, rfl, Nat.le_refl _, fun _ _ => rfl⟩
theorem bl_drew {a w : World} (h : Below a.heap.size a w) : Below a.heap.size a w.drew := h.drew
theorem bl_alloc {a w : World} (h : Below a.heap.size a w) {o : Obj} : Below a.heap.size a (w.alloc o) := h.alloc h.size o
theorem bl_set {a w : World} (h : Below a.heap.size a w) {p : Addr} (hp : a.heap.size ≤ p.block) (u : Value) : Below a.heap.size a (w.setCell p u) := h.setCell hp u
theorem bl_trans {a w w' : World} (h : Below a.heap.size a w) (k : Below w.heap.size w w') : Below a.heap.size a w' := h.trans (k.mono h.size)
theorem bl_grown {a w w' : World} {row : Option Nat} (h : Below a.heap.size a w) (hg : w.grownBy w' row) (hr : ∀ k, row = some k → a.heap.size ≤ k) : Below a.heap.size a w' := h.grown hg h.size hr

/-- The worlds that have the old blocks of W as they were. -/
structure Ext (W : World) where
  w : World
  b : Below W.heap.size W w

instance ext_some (W : World) : Nonempty (Ext W) := ⟨⟨W, Below.refl _ _⟩⟩

theorem ext_cell {W : World} (u : Ext W) (b o : Nat) (h : b < W.heap.size) : u.w.cell? ⟨b, o, none⟩ = W.cell? ⟨b, o, none⟩ := u.b.cell (p := ⟨b, o, none⟩) h

theorem ext_call {P : Program} {f : FuncId} {args : Array Value} {W : World} {u : Ext W} {v : Value}
    (h : Calls P f args u.w fun e w' => e = .returned v ∧ Below u.w.heap.size u.w w') : Calls P f args u.w fun e w'' => e = .returned v ∧ ∃ u' : Ext W, w'' = u'.w :=
  h.mono fun _ _ ⟨he, hb⟩ => ⟨he, ⟨_, bl_trans u.b hb⟩, rfl⟩

theorem ext_same {P : Program} {f : FuncId} {args : Array Value} {W : World} {u : Ext W} {v : Value}
    (h : Calls P f args u.w fun e w' => e = .returned v ∧ u.w = w') : Calls P f args u.w fun e w'' => e = .returned v ∧ ∃ u' : Ext W, w'' = u'.w :=
  h.mono fun _ _ ⟨he, hb⟩ => ⟨he, u, hb.symm⟩

/-- A region that draws its order, whose operations read, make new blocks or call what does so: one walk in the order of the text. -/
theorem wp_region_ext {P : Program} {id : Nat} {Q : Exit → Act → World → Prop} {a : Act} {w : World} {l : List Oper} (hm : P.follows .mixedOrders = true) (hB : Region.lexB .any l.toArray = true)
    (h : wpQuiet P l.toArray (fun w' => ∃ u : Ext w, w' = u.w) (fun a' => ∀ w', (∃ u : Ext w, w' = u.w) → Q .normal a' w') l a) : (Code.region id l.toArray true).wp P Q a w :=
  wp_region_quiet (C := fun w' => ∃ u : Ext w, w' = u.w) hm hB ⟨⟨_, bl_drew (Below.refl _ _)⟩, rfl⟩ (by simpa using h)

theorem run_append_nothing {P : Program} (w : World) (base : Nat) (t ty e : TypeId) (i : TypeInfo) (size : Nat) (ht : P.underlying t = some (.slice e)) (hi : P.info? e = some i)
    (v : Value) (n : Nat) (xs : List Value) (hown : w.ownsRow base e size v n xs) (c : Nat) :
    (Builtin.append_ #[t, t] ty #[v, .slice none 0 c]).run P w = .ok v w := by
  rcases hown.2 with ⟨rfl, rfl⟩ | ⟨g, cap, cur, rfl, _, _, hnc, _⟩
  · simp [Builtin.append_, run_underlying ht, sizeOf, typeInfo, hi, Builtin.lenOf, Builtin.firstCells]
  · simp [Builtin.append_, run_underlying ht, sizeOf, typeInfo, hi, Builtin.lenOf, Builtin.firstCells, hnc, storeCells]

/-- 'append(v, x...)', v the call's own, x any slice that reads as 'news'. -/
theorem wpList_append_sl {P : Program} (w : World) {ops : Array Oper} {rest : List Oper} {o : Oper} {a : Act} {Q : Exit → Act → World → Prop} (hgd : o.guard = none) (s x : Operand) (t : TypeId)
    (ho : o.op = .call { callee := .builtin .append, args := #[s, x], argTypes := #[t, t] })
    (base : Nat) (e : TypeId) (i : TypeInfo) (z : Value) (size bytes : Nat) (ht : P.underlying t = some (.slice e)) (hi : P.info? e = some i) (hz : i.zero = some z)
    (hsize : i.size = size) (hby : i.bytes = bytes) (hzs : z.cells.size = size) (hsz : 0 < size)
    (v : Value) (n : Nat) (xs : List Value) (hs : a.eval s = v) (hown : w.ownsRow base e size v n xs)
    (ad : Option Addr) (m c : Nat) (news : List Value) (hx : a.eval x = .slice ad m c) {B : Nat} (hsl : SlAt B w ad news) (hl : news.length = m * size) (h1 : ∀ u ∈ news, u.oneCell' = true)
    (h63 : n + m ≤ maxLen) (hbytes : (n + m) * bytes ≤ 140737488355328) (hbase : base ≤ w.heap.size)
    (h : ∀ v' w', w'.ownsRow base e size v' (n + m) (xs ++ news) → w.grownBy w' v.ownBlock → wpList P ops Q rest (a.put o.dst v') w') : wpList P ops Q (o :: rest) a w := by
  cases ad with
  | none =>
    have hn : news = [] := by
      cases news with
      | nil => rfl
      | cons u us => obtain ⟨b, off, h0, -⟩ := hsl 0 (by simp); cases h0
    subst hn
    have hm : m = 0 := by
      have h2 : m * size = 0 := by simpa using hl.symm
      rcases Nat.mul_eq_zero.1 h2 with h3 | h3
      · exact h3
      · omega
    subst hm
    refine wpList_plain hgd fun K hK => ?_
    have hr := run_append_nothing (P := P) w base t o.type e i size ht hi v n xs hown c
    unfold Oper.wp execOp
    simp only [ho, resolve, invoke, builtin, Sem.run_bind, Sem.run_pure, Result.andThen_ok, List.map_toArray, List.map_cons, List.map_nil, hs, hx, hr]
    exact hK _ _ (h v w (by simpa using hown) (World.grownBy.refl _ _))
  | some ad =>
    refine wpList_append_own w hgd s x t ho base e i z size bytes ht hi hz hsize hby hzs hsz v n xs hs hown ad m c news hx hl ?_ h1 h63 hbytes hbase fun v' w' h2 h3 _ => h v' w' h2 h3
    intro j u hu
    have hj : j < news.length := (List.getElem?_eq_some_iff.1 hu).1
    obtain ⟨b, off, h0, -, h3⟩ := hsl j hj
    cases h0
    rw [List.getElem?_eq_getElem hj] at hu
    cases hu
    have : (⟨b, off, none⟩ : Addr).add j = ⟨b, off + j, none⟩ := by unfold Addr.add; split <;> simp_all
    rw [this]; exact h3

theorem one_cells {α : Type} {f : α → List Value} (h : ∀ x, ∀ u ∈ f x, u.oneCell' = true) (l : List α) : ∀ u ∈ flat f l, u.oneCell' = true := by
  intro u hu
  simp only [flat, List.mem_flatMap] at hu
  obtain ⟨x, -, hx⟩ := hu
  exact h x u hx
theorem Pc.one (p : Pc) : ∀ u ∈ p.cells, u.oneCell' = true := by
  intro u hu
  simp only [Pc.cells, List.mem_cons, List.not_mem_nil, or_false] at hu
  rcases hu with rfl | rfl | rfl | rfl | rfl <;> rfl
theorem Ce.one (p : Ce) : ∀ u ∈ p.cells, u.oneCell' = true := by
  intro u hu
  simp only [Ce.cells, List.mem_cons, List.not_mem_nil, or_false] at hu
  rcases hu with rfl | rfl <;> rfl

end Go.Proofs.YtmeefmoblkiebaaGreat
/- Opening arguments: what a type of whole numbers alone, and a slice of such, reads as. -/
namespace Go.Proofs.YtmeefmoblkiebaaGreat
open Go.RowKit Go.ChangeShapes Go.WideShapes Go.ChangeAt
set_option linter.unusedVariables false
set_option linter.unusedSimpArgs false

/-- Values that are whole numbers of these kinds. -/
def Fits : List IntKind → List Value → Prop
  | [], [] => True
  | k :: ks, v :: vs => (∃ n, v = .int k n ∧ (Lit.int k n).wf = true) ∧ Fits ks vs
  | _, _ => False

theorem Fits.append : ∀ {ks ls : List IntKind} {vs us : List Value}, Fits ks vs → Fits ls us → Fits (ks ++ ls) (vs ++ us)
  | [], _, [], _, _, h => h
  | k :: ks, ls, v :: vs, us, ⟨h1, h2⟩, h => ⟨h1, Fits.append h2 h⟩
  | [], _, _ :: _, _, h, _ => h.elim
  | _ :: _, _, [], _, h, _ => h.elim

theorem Fits.length : ∀ {ks : List IntKind} {vs : List Value}, Fits ks vs → vs.length = ks.length
  | [], [], _ => rfl
  | k :: ks, v :: vs, ⟨_, h⟩ => by simp [Fits.length h]
  | [], _ :: _, h => h.elim
  | _ :: _, [], h => h.elim

def kindsFs (P : Program) (g : TypeId → Option (List IntKind)) : List Field → Nat → Option (List IntKind)
  | [], _ => some []
  | f :: fs, off => if f.offset = off then (g f.type).bind fun ks => if ks.length = P.cellsOf f.type then (kindsFs P g fs (off + ks.length)).map (ks ++ ·) else none else none

/-- The kinds of the numbers of a type that holds nothing else. -/
def kinds (P : Program) : Nat → TypeId → Option (List IntKind)
  | 0, _ => none
  | n + 1, t =>
    match P.underlying t with
    | some (.int k) => some [k]
    | some (.struct fs) => (kindsFs P (kinds P n) fs.toList 0).bind fun ks => if ks.length = P.cellsOf t then some ks else none
    | some (.array m e) => (kinds P n e).bind fun ks => if ks.length = P.cellsOf e ∧ m * ks.length = P.cellsOf t then some ((List.range m).flatMap fun _ => ks) else none
    | _ => none

section
variable {H : Type} {enc : TypeId × Value → H} {P : Program} {w : World} {base : Nat} {spare : Nat → Bool} {held : Bool}

theorem fits_fields {g : TypeId → Option (List IntKind)} {m : Nat} (ih : ∀ (t : TypeId) ks, g t = some ks → ∀ (cs : List Value) x, DataW.trod enc P w base spare held m t cs = some x → Fits ks cs) (cs : List Value) :
    ∀ (fs : List Field) (off : Nat) (ks : List IntKind), kindsFs P g fs off = some ks → off + ks.length = cs.length → (∀ f ∈ fs, ∃ x, DataW.trod enc P w base spare held m f.type ((cs.drop f.offset).take (P.cellsOf f.type)) = some x) → Fits ks (cs.drop off) := by
  intro fs
  induction fs with
  | nil =>
    intro off ks h hl _
    simp only [kindsFs, Option.some.injEq] at h
    subst h
    have : cs.drop off = [] := List.drop_of_length_le (by simp at hl; omega)
    rw [this]; trivial
  | cons f fs ihf =>
    intro off ks h hl hx
    unfold kindsFs at h
    split at h
    · rename_i hoff
      subst hoff
      simp only [Option.bind_eq_some_iff] at h
      obtain ⟨k1, hk1, h⟩ := h
      split at h
      · rename_i hlen
        simp only [Option.map_eq_some_iff] at h
        obtain ⟨k2, hk2, rfl⟩ := h
        rw [List.length_append] at hl
        obtain ⟨x, hx1⟩ := hx f (by simp)
        have h1 := ih f.type k1 hk1 _ x hx1
        have h2 := ihf (f.offset + k1.length) k2 hk2 (by omega) (fun f' hf' => hx f' (by simp [hf']))
        rw [← hlen] at h1
        have e : cs.drop f.offset = (cs.drop f.offset).take k1.length ++ cs.drop (f.offset + k1.length) := by
          rw [← List.drop_drop]; exact (List.take_append_drop _ _).symm
        rw [e]
        exact Fits.append h1 h2
      · cases h
    · cases h

theorem fits_items {ks : List IntKind} {c : Nat} (hc : ks.length = c) (cs : List Value) : ∀ m, (∀ i, i < m → Fits ks ((cs.drop (i * c)).take c)) → m * c ≤ cs.length → Fits ((List.range m).flatMap fun _ => ks) (cs.take (m * c)) := by
  intro m
  induction m with
  | zero => intro _ _; simp [Fits]
  | succ m ih =>
    intro h hl
    rw [Nat.succ_mul] at hl ⊢
    rw [List.range_succ, List.flatMap_append, List.take_add]
    refine Fits.append (ih (fun i hi => h i (by omega)) (by omega)) ?_
    simpa using h m (by omega)

theorem trod_kinds : ∀ (n : Nat) (t : TypeId) (ks : List IntKind), kinds P n t = some ks → ∀ (fuel : Nat) (cs : List Value) (x : DataW H × List MemPlace), DataW.trod enc P w base spare held fuel t cs = some x → Fits ks cs := by
  intro n
  induction n with
  | zero => intro t ks h; simp [kinds] at h
  | succ n ih =>
    intro t ks h fuel cs x hx
    unfold kinds at h
    split at h
    · rename_i k hu
      cases h
      cases fuel with
      | zero => simp [DataW.trod] at hx
      | succ m =>
        unfold DataW.trod at hx
        rw [hu] at hx
        split at hx <;> simp_all [Fits]
    · rename_i fs hu
      simp only [Option.bind_eq_some_iff] at h
      obtain ⟨ks', h1, h2⟩ := h
      split at h2
      · rename_i hl
        cases h2
        obtain ⟨xs, m, rfl, -, hcl, hxl, hg⟩ := DataW.trod_struct hu hx
        have := fits_fields (fun t ks hk cs x hx => ih t ks hk m cs x hx) cs fs.toList 0 ks h1 (by omega) ?_
        · simpa using this
        · intro f hf
          obtain ⟨i, hi, rfl⟩ := List.getElem_of_mem hf
          have hi' : i < fs.size := by simpa using hi
          have := hg i fs[i] (by simp [hi'])
          refine ⟨xs[i]'(by omega), ?_⟩
          simp only [Array.getElem_toList]
          rw [this]; exact List.getElem?_eq_getElem _
      · cases h2
    · rename_i m e hu
      simp only [Option.bind_eq_some_iff] at h
      obtain ⟨ks', h1, h2⟩ := h
      split at h2
      · rename_i hl
        cases h2
        obtain ⟨xs, q, rfl, -, hcl, hxl, hg⟩ := DataW.trod_array hu hx
        have := fits_items hl.1 cs m (fun i hi => ?_) (by rw [hcl, ← hl.2, hl.1]; exact Nat.le_refl _)
        · rw [List.take_of_length_le (by rw [hcl, ← hl.2, hl.1]; exact Nat.le_refl _)] at this
          exact this
        · have hi2 := hg i hi
          exact ih e ks' h1 q _ (xs[i]'(by omega)) (by rw [hi2]; exact List.getElem?_eq_getElem _)
      · cases h2
    · cases h

/-- A slice of such elements that came in. -/
theorem sl_of_open {α : Type} [Inhabited α] {f : α → List Value} {ok : α → Prop} {ks : List IntKind} {s : Nat} (hs : ks.length = s) (h0 : 0 < s) (conv : ∀ cs, Fits ks cs → ∃ x, ok x ∧ cs = f x) {t e : TypeId} {fuel : Nat} {a : Option Addr} {len cap : Nat} {x : DataW H × List MemPlace}
    (ht : P.underlying t = some (.slice e)) (he : P.cellsOf e = s) (hk : kinds P 5 e = some ks) (h : DataW.trod enc P w base spare held fuel t [.slice a len cap] = some x) :
    ∃ l : List α, l.length = len ∧ (∀ k (h : k < l.length), ok l[k]) ∧ SlAt w.heap.size w a (flat f l) ∧ len ≤ maxLen := by
  rcases Go.Deep.open_slice ht h with ⟨hcs, _⟩ | ⟨a, len, cap, m, n, D, Pl, hcs, -, hlc, hcm, hm, -, hel⟩
  · simp only [List.cons.injEq, Value.slice.injEq, and_true] at hcs
    obtain ⟨rfl, rfl, rfl⟩ := hcs
    exact ⟨[], rfl, fun k h => by simp at h, fun j hj => by simp [flat] at hj, by simp [maxLen]⟩
  · simp only [List.cons.injEq, Value.slice.injEq, and_true] at hcs
    obtain ⟨rfl, rfl, rfl⟩ := hcs
    have hlm : len ≤ m := by rw [hm]; split <;> omega
    have hch : ∃ g : Nat → α, ∀ i, i < len → ok (g i) ∧ w.cells? base (a.add (i * s)) s = some (f (g i)) := by
      refine Go.Deep.choose_lt (p := fun i y => ok y ∧ w.cells? base (a.add (i * s)) s = some (f y)) fun i hi => ?_
      obtain ⟨cs', h1, h2⟩ := hel i (by omega)
      obtain ⟨y, hy, rfl⟩ := conv _ (trod_kinds 5 e ks hk _ _ _ h2)
      rw [he] at h1
      exact ⟨y, hy, h1⟩
    obtain ⟨g, hg⟩ := hch
    have hfl : ∀ i, i < len → (f (g i)).length = s := by
      intro i hi
      have := (hg i hi).2
      unfold World.cells? at this
      split at this
      · have := mapM_some_length this; simpa using this
      · cases this
    have cell : ∀ i c, i < len → c < s → w.cell? ((a.add (i * s)).add c) = (f (g i))[c]? := by
      intro i c hi hc
      have := (hg i hi).2
      unfold World.cells? at this
      split at this
      · exact mapM_some_get this c c (by simp [hc])
      · cases this
    refine ⟨(List.range len).map g, by simp, fun k hk => by simp at hk ⊢; exact (hg k hk).1, ?_, by omega⟩
    intro j hj
    have hl : ∀ L, L ≤ len → (flat f ((List.range L).map g)).length = L * s := by
      intro L
      induction L with
      | zero => intro _; simp [flat]
      | succ L ih =>
        intro h1
        rw [List.range_succ, List.map_append, flat_append, List.length_append, Nat.succ_mul, ih (by omega)]
        simp [flat, hfl L (by omega)]
    obtain ⟨q, r, hr, hjj⟩ : ∃ q r, r < s ∧ q * s + r = j := ⟨j / s, j % s, Nat.mod_lt _ h0, by rw [Nat.mul_comm]; exact Nat.div_add_mod j s⟩
    have hq : q < len := by
      rw [hl len (Nat.le_refl _)] at hj
      exact Nat.lt_of_mul_lt_mul_right (a := s) (by omega)
    have hc := cell q r hq hr
    rw [Go.Deep.add_add, hjj] at hc
    have key : ∀ (L : Nat), L ≤ len → q < L → (flat f ((List.range L).map g))[j]? = (f (g q))[r]? := by
      intro L
      induction L with
      | zero => intro _ h; omega
      | succ L ih =>
        intro hL1 hL2
        rw [List.range_succ, List.map_append, flat_append]
        by_cases h : q < L
        · rw [List.getElem?_append_left]
          · exact ih (by omega) h
          · rw [hl L (by omega)]
            have : (q + 1) * s ≤ L * s := Nat.mul_le_mul_right _ h
            rw [Nat.succ_mul] at this
            omega
        · have e : q = L := by omega
          rw [List.getElem?_append_right (by rw [hl L (by omega), ← e]; omega), hl L (by omega), ← e]
          have : j - q * s = r := by omega
          rw [this]
          simp [flat]
    have hget := key len (Nat.le_refl _) hq
    have hv : (flat f ((List.range len).map g))[j]? = some (flat f ((List.range len).map g))[j] := List.getElem?_eq_getElem hj
    rw [← hget, hv] at hc
    obtain ⟨b, off, spot⟩ := a
    have hsp := World.cell?_spot hc
    by_cases hj0 : j = 0
    · subst hj0
      simp only [Addr.add, if_true] at hsp hc
      subst hsp
      exact ⟨b, off, rfl, World.block_lt_of_cell? w _ hc, by simpa using hc⟩
    · simp only [Addr.add, hj0, if_false] at hc
      have hc0 := cell 0 0 (by omega) h0
      have hv0 : (f (g 0))[0]? = some ((f (g 0))[0]'(by rw [hfl 0 (by omega)]; exact h0)) := List.getElem?_eq_getElem _
      rw [hv0] at hc0
      have hsp0 := World.cell?_spot hc0
      simp only [Nat.zero_mul, Addr.add, if_true] at hsp0
      subst hsp0
      exact ⟨b, off, rfl, World.block_lt_of_cell? w _ hc, hc⟩
end

section
variable {H : Type} {enc : TypeId × Value → H} {P : Program} {w : World} {base : Nat} {spare : Nat → Bool} {held : Bool}
end

theorem fits_cons {k : IntKind} {ks : List IntKind} {cs : List Value} (h : Fits (k :: ks) cs) : ∃ n vs, cs = .int k n :: vs ∧ (Lit.int k n).wf = true ∧ Fits ks vs := by
  cases cs with
  | nil => exact h.elim
  | cons v vs => obtain ⟨⟨n, rfl, hn⟩, h⟩ := h; exact ⟨n, vs, rfl, hn, h⟩
theorem fits_nil {cs : List Value} (h : Fits [] cs) : cs = [] := by
  cases cs with
  | nil => rfl
  | cons v vs => exact h.elim

end Go.Proofs.YtmeefmoblkiebaaGreat
/- Bits of whole numbers: and, or, xor, shifts. -/
namespace Go.Proofs.YtmeefmoblkiebaaGreat
open Go.RowKit
set_option linter.unusedVariables false
set_option linter.unusedSimpArgs false
theorem wrap_u64 (n : Int) (h0 : 0 ≤ n) (h1 : n < 18446744073709551616) : IntKind.u64.wrap n = n := by
  simp [IntKind.wrap, IntKind.bits, IntKind.signed]; omega
theorem wrap_i64' (n : Int) (h0 : -9223372036854775808 ≤ n) (h1 : n ≤ 9223372036854775807) : IntKind.i64.wrap n = n := by
  rw [IntKind.wrap_i64]; omega
theorem bits_u64 (a b : Nat) (ha : a < 18446744073709551616) (hb : b < 18446744073709551616) :
    bits .and .u64 (a : Int) (b : Int) = ((a &&& b : Nat) : Int) ∧ bits .or .u64 (a : Int) (b : Int) = ((a ||| b : Nat) : Int) ∧ bits .xor .u64 (a : Int) (b : Int) = ((a ^^^ b : Nat) : Int) := by
  have e : (18446744073709551616 : Nat) = 2 ^ 64 := by decide
  have h1 : (a &&& b) < 2 ^ 64 := Nat.and_lt_two_pow a (by rw [← e]; exact hb)
  have h2 : (a ||| b) < 2 ^ 64 := Nat.or_lt_two_pow (by rw [← e]; exact ha) (by rw [← e]; exact hb)
  have h3 : (a ^^^ b) < 2 ^ 64 := Nat.xor_lt_two_pow (by rw [← e]; exact ha) (by rw [← e]; exact hb)
  rw [e] at ha hb
  refine ⟨?_, ?_, ?_⟩
  · show IntKind.u64.wrap ((BitVec.ofInt 64 (a : Int) &&& BitVec.ofInt 64 (b : Int)).toNat : Int) = _
    rw [BitVec.ofInt_natCast, BitVec.ofInt_natCast, BitVec.toNat_and, BitVec.toNat_ofNat, BitVec.toNat_ofNat, Nat.mod_eq_of_lt ha, Nat.mod_eq_of_lt hb]
    exact wrap_u64 _ (by omega) (by rw [← e] at h1; omega)
  · show IntKind.u64.wrap ((BitVec.ofInt 64 (a : Int) ||| BitVec.ofInt 64 (b : Int)).toNat : Int) = _
    rw [BitVec.ofInt_natCast, BitVec.ofInt_natCast, BitVec.toNat_or, BitVec.toNat_ofNat, BitVec.toNat_ofNat, Nat.mod_eq_of_lt ha, Nat.mod_eq_of_lt hb]
    exact wrap_u64 _ (by omega) (by rw [← e] at h2; omega)
  · show IntKind.u64.wrap ((BitVec.ofInt 64 (a : Int) ^^^ BitVec.ofInt 64 (b : Int)).toNat : Int) = _
    rw [BitVec.ofInt_natCast, BitVec.ofInt_natCast, BitVec.toNat_xor, BitVec.toNat_ofNat, BitVec.toNat_ofNat, Nat.mod_eq_of_lt ha, Nat.mod_eq_of_lt hb]
    exact wrap_u64 _ (by omega) (by rw [← e] at h3; omega)
theorem bits_i64 (a b : Nat) (ha : a < 9223372036854775808) (hb : b < 9223372036854775808) :
    bits .and .i64 (a : Int) (b : Int) = ((a &&& b : Nat) : Int) ∧ bits .or .i64 (a : Int) (b : Int) = ((a ||| b : Nat) : Int) ∧ bits .xor .i64 (a : Int) (b : Int) = ((a ^^^ b : Nat) : Int) := by
  have e : (9223372036854775808 : Nat) = 2 ^ 63 := by decide
  have e2 : (9223372036854775808 : Nat) < 2 ^ 64 := by decide
  have h1 : (a &&& b) < 2 ^ 63 := Nat.and_lt_two_pow a (by rw [← e]; exact hb)
  have h2 : (a ||| b) < 2 ^ 63 := Nat.or_lt_two_pow (by rw [← e]; exact ha) (by rw [← e]; exact hb)
  have h3 : (a ^^^ b) < 2 ^ 63 := Nat.xor_lt_two_pow (by rw [← e]; exact ha) (by rw [← e]; exact hb)
  have ha2 := Nat.lt_trans ha e2
  have hb2 := Nat.lt_trans hb e2
  refine ⟨?_, ?_, ?_⟩
  · show IntKind.i64.wrap ((BitVec.ofInt 64 (a : Int) &&& BitVec.ofInt 64 (b : Int)).toNat : Int) = _
    rw [BitVec.ofInt_natCast, BitVec.ofInt_natCast, BitVec.toNat_and, BitVec.toNat_ofNat, BitVec.toNat_ofNat, Nat.mod_eq_of_lt ha2, Nat.mod_eq_of_lt hb2]
    exact wrap_i64' _ (by omega) (by rw [← e] at h1; omega)
  · show IntKind.i64.wrap ((BitVec.ofInt 64 (a : Int) ||| BitVec.ofInt 64 (b : Int)).toNat : Int) = _
    rw [BitVec.ofInt_natCast, BitVec.ofInt_natCast, BitVec.toNat_or, BitVec.toNat_ofNat, BitVec.toNat_ofNat, Nat.mod_eq_of_lt ha2, Nat.mod_eq_of_lt hb2]
    exact wrap_i64' _ (by omega) (by rw [← e] at h2; omega)
  · show IntKind.i64.wrap ((BitVec.ofInt 64 (a : Int) ^^^ BitVec.ofInt 64 (b : Int)).toNat : Int) = _
    rw [BitVec.ofInt_natCast, BitVec.ofInt_natCast, BitVec.toNat_xor, BitVec.toNat_ofNat, BitVec.toNat_ofNat, Nat.mod_eq_of_lt ha2, Nat.mod_eq_of_lt hb2]
    exact wrap_i64' _ (by omega) (by rw [← e] at h3; omega)
/-- Bit i of a number. -/
def bitN (n i : Nat) : Bool := n.testBit i
theorem bit_and (n i : Nat) : ((n / 2 ^ i) &&& 1 : Nat) = if bitN n i = true then 1 else 0 := by
  unfold bitN
  rw [Nat.testBit_eq_decide_div_mod_eq, Nat.and_one_is_mod]
  rcases Nat.mod_two_eq_zero_or_one (n / 2 ^ i) with h | h <;> simp [h]
end Go.Proofs.YtmeefmoblkiebaaGreat
/- Contracts of the small functions: numbers, cells, pieces; what the statements' own file makes, compares and marks. -/
namespace Go.Proofs.YtmeefmoblkiebaaGreat
open Go.RowKit
set_option linter.unusedVariables false
set_option linter.unusedSimpArgs false
set_option maxHeartbeats 400000
set_option maxRecDepth 100000

def vPc (p : Pc) : Bool := inB p.k 0 5 && inB p.t 0 3 && inB p.d 1 9 && (inB p.x 0 23 && inB p.y 0 23)
def cIn (wd hg : Int) (c : Ce) : Bool := inB c.x 0 (wd - 1) && inB c.y 0 (hg - 1)

theorem in_any (n lo hi : Int) (w : World) :
    Calls Tryz.prog 64 #[.int .i64 n, .int .i64 lo, .int .i64 hi] w fun e w' => e = .returned (.bool (inB n lo hi)) ∧ w = w' := by
  unfold inB
  by_cases h1 : lo ≤ n <;> by_cases h2 : n ≤ hi <;>
  · go_enter Tryz.func64, Tryz.ntmps64
    go_wp2
    go_ret
    exact ⟨by simp [h1, h2], rfl⟩
theorem l00In_any (n lo hi : Int) (w : World) :
    Calls Tryz.prog 79 #[.int .i64 n, .int .i64 lo, .int .i64 hi] w fun e w' => e = .returned (.bool (inB n lo hi)) ∧ w = w' := by
  unfold inB
  by_cases h1 : lo ≤ n <;> by_cases h2 : n ≤ hi <;>
  · go_enter Tryz.func79, Tryz.ntmps79
    go_wp2
    go_ret
    exact ⟨by simp [h1, h2], rfl⟩
theorem isSide_any (n : Int) (w : World) :
    Calls Tryz.prog 119 #[.int .i64 n] w fun e w' => e = .returned (.bool (inB n 0 3)) ∧ w = w' := by
  go_enter Tryz.func119, Tryz.ntmps119
  go_wp2_with (go_at_call 64; refine (in_any _ _ _ _).mono ?_; rintro e w' ⟨rfl, rfl⟩)
  go_ret
  exact ⟨rfl, rfl⟩
theorem l01Side_any (n : Int) (w : World) :
    Calls Tryz.prog 129 #[.int .i64 n] w fun e w' => e = .returned (.bool (inB n 0 3)) ∧ w = w' := by
  go_enter Tryz.func129, Tryz.ntmps129
  go_wp2_with (go_at_call 79; refine (l00In_any _ _ _ _).mono ?_; rintro e w' ⟨rfl, rfl⟩)
  go_ret
  exact ⟨rfl, rfl⟩
theorem l01In_any (c : Ce) (hc : c.ok) (wd hg : Int) (w : World) (h1 : -1000 ≤ wd) (h2 : wd ≤ 1000) (h3 : -1000 ≤ hg) (h4 : hg ≤ 1000) :
    Calls Tryz.prog 156 #[c.val, .int .i64 wd, .int .i64 hg] w fun e w' => e = .returned (.bool (cIn wd hg c)) ∧ Below w.heap.size w w' := by
  obtain ⟨⟨x1, x2⟩, ⟨y1, y2⟩⟩ := hc
  go_enter Tryz.func156, Tryz.ntmps156
  go_wp2_with (go_at_call 79; refine (l00In_any _ _ _ _).mono ?_; rintro e w' ⟨rfl, rfl⟩)
  all_goals
    go_ret
    exact ⟨by simp_all [cIn], (by repeat (first | with_reducible exact Below.refl _ _ | with_reducible assumption | with_reducible apply bl_drewN | with_reducible apply bl_drew | with_reducible apply bl_alloc | (with_reducible refine bl_set ?_ (by first | (simp; done) | (simp; omega)) _) | with_reducible refine bl_trans ?_ (by with_reducible assumption)))⟩
theorem placed_any (c : Ce) (hc : c.ok) (w : World) :
    Calls Tryz.prog 170 #[c.val] w fun e w' => e = .returned (.bool (inB c.x 0 23 && inB c.y 0 23)) ∧ Below w.heap.size w w' := by
  obtain ⟨⟨x1, x2⟩, ⟨y1, y2⟩⟩ := hc
  go_enter Tryz.func170, Tryz.ntmps170
  go_wp2_with (go_at_call 64; refine (in_any _ _ _ _).mono ?_; rintro e w' ⟨rfl, rfl⟩)
  all_goals
    go_ret
    exact ⟨by simp_all, (by repeat (first | with_reducible exact Below.refl _ _ | with_reducible assumption | with_reducible apply bl_drewN | with_reducible apply bl_drew | with_reducible apply bl_alloc | (with_reducible refine bl_set ?_ (by first | (simp; done) | (simp; omega)) _) | with_reducible refine bl_trans ?_ (by with_reducible assumption)))⟩
theorem l01Piece_any (p : Pc) (hp : p.ok) (w : World) (b off : Nat) (h : PcAt w b off p) :
    Calls Tryz.prog 155 #[.pointer (some ⟨b, off, none⟩)] w fun e w' => e = .returned (.bool (vPc p)) ∧ Below w.heap.size w w' := by
  obtain ⟨⟨⟨x1, x2⟩, ⟨y1, y2⟩⟩, ⟨k1, k2⟩, ⟨t1, t2⟩, ⟨d1, d2⟩⟩ := hp
  unfold PcAt at h
  go_enter Tryz.func155, Tryz.ntmps155
  go_wp2_with (first | (go_at_call 79; refine (l00In_any _ _ _ _).mono ?_; rintro e w' ⟨rfl, rfl⟩) | (go_at_call 156; refine (l01In_any ⟨p.x, p.y⟩ ⟨⟨x1, x2⟩, ⟨y1, y2⟩⟩ _ _ _ (by omega) (by omega) (by omega) (by omega)).mono ?_; rintro e w' ⟨rfl, hb⟩))
  all_goals
    go_ret
    exact ⟨by simp_all [vPc, cIn], (by repeat (first | with_reducible exact Below.refl _ _ | with_reducible assumption | with_reducible apply bl_drewN | with_reducible apply bl_drew | with_reducible apply bl_alloc | (with_reducible refine bl_set ?_ (by first | (simp; done) | (simp; omega)) _) | with_reducible refine bl_trans ?_ (by with_reducible assumption)))⟩
theorem validPiece_any (p : Pc) (hp : p.ok) (w : World) :
    Calls Tryz.prog 111 #[p.val] w fun e w' => e = .returned (.bool (vPc p)) ∧ Below w.heap.size w w' := by
  obtain ⟨⟨⟨x1, x2⟩, ⟨y1, y2⟩⟩, ⟨k1, k2⟩, ⟨t1, t2⟩, ⟨d1, d2⟩⟩ := hp
  go_enter Tryz.func111, Tryz.ntmps111
  go_wp2_with (first | (go_at_call 64; refine (in_any _ _ _ _).mono ?_; rintro e w' ⟨rfl, rfl⟩) | (go_at_call 170; refine (placed_any ⟨p.x, p.y⟩ ⟨⟨x1, x2⟩, ⟨y1, y2⟩⟩ _).mono ?_; rintro e w' ⟨rfl, hb⟩))
  all_goals
    go_ret
    exact ⟨by simp_all [vPc], (by repeat (first | with_reducible exact Below.refl _ _ | with_reducible assumption | with_reducible apply bl_drewN | with_reducible apply bl_drew | with_reducible apply bl_alloc | (with_reducible refine bl_set ?_ (by first | (simp; done) | (simp; omega)) _) | with_reducible refine bl_trans ?_ (by with_reducible assumption)))⟩
end Go.Proofs.YtmeefmoblkiebaaGreat
/- Contracts of the loops over slices of pieces in the statements' own file. -/
namespace Go.Proofs.YtmeefmoblkiebaaGreat
open Go.RowKit
set_option linter.unusedVariables false
set_option linter.unusedSimpArgs false
set_option maxHeartbeats 400000
set_option maxRecDepth 100000

abbrev w8 (n : Int) : Int := IntKind.i8.wrap n

theorem Tryz.infoPiece : (Tryz.prog.info? 49).map (fun i => (i.zero, i.size, i.bytes)) = some (some (.agg #[.int .i8 0, .int .i8 0, .int .i8 0, .int .i8 0, .int .i8 0]), 5, 5) := by kernel_rfl
end Go.Proofs.YtmeefmoblkiebaaGreat
/- Contracts of the loops over pieces in the program and in the reference: searches, sums. -/
namespace Go.Proofs.YtmeefmoblkiebaaGreat
open Go.RowKit
set_option linter.unusedVariables false
set_option linter.unusedSimpArgs false
set_option maxHeartbeats 400000
set_option maxRecDepth 100000

theorem indexFuncPc_any {B : Nat} (K : Nat) (caps : Array Value) (a : Option Addr) (cap : Nat) (ps : List Pc) (w : World) (hps : PcsAt B w a ps) (hok : PcsOk ps) (hB : B ≤ w.heap.size) (hn : ps.length ≤ 10000000) 
   (eg : ∀ (args : Array Value) (w : World), (callFunc K args).run Tryz.prog w = .ok (.enter K args) w) (q : Pc → Bool) (hf : ∀ (p : Pc) (w1 : World), p.ok → Below w.heap.size w w1 → Calls Tryz.prog K (#[p.val] ++ caps) w1 fun e w' => e = .returned (.bool (q p)) ∧ Below w1.heap.size w1 w'):
    Calls Tryz.prog 115 #[.slice a ps.length cap, .func (.func K) #[] caps] w fun e w' => e = .returned (.int .i64 ((ps.findIdx? q).elim (-1) (fun n => (n : Int)))) ∧ Below w.heap.size w w' := by
  go_enter Tryz.func115, Tryz.ntmps115
  go_wp2
  go_loopw [8] (fun i wr => ∃ k : Nat, k ≤ ps.length ∧ i = .int .i64 k ∧ (ps.take k).findIdx? q = none ∧ Below w.heap.size w wr) (fun i _ => ps.length - (intOf i).toNat)
  case atStart => exact ⟨0, by omega, rfl, by simp, Below.refl _ _⟩
  case round =>
    obtain ⟨k, hk, rfl, hfi, hb⟩ := hrel
    have Hfi := Lib.hid hfi; clear hfi
    by_cases hlt : k < ps.length
    · obtain ⟨b, off, rfl, hbl, hat⟩ := pcs_get (hps.below hb hB) hlt
      unfold PcAt at hat
      have Hf := Lib.hid hf; clear hf
      go_wp2_with (refine (Hf.out ps[k] _ (hok k hlt) hb).mono ?_; rintro e w' ⟨rfl, hb2⟩)
      · have h1 : q ps[k] = true := by assumption
        go_ret
        refine ⟨?_, (by repeat (first | with_reducible exact Below.refl _ _ | with_reducible assumption | with_reducible apply bl_drewN | with_reducible apply bl_drew | with_reducible apply bl_alloc | (with_reducible refine bl_set ?_ (by first | (simp; done) | (simp; omega)) _) | with_reducible refine bl_trans ?_ (by with_reducible assumption)))⟩
        have h2 : ps.findIdx? q = some k := by
          rw [List.findIdx?_eq_some_iff_getElem]
          refine ⟨hlt, h1, fun j hj => ?_⟩
          have h3 := Hfi.out
          rw [List.findIdx?_eq_none_iff] at h3
          have := h3 ps[j] (by rw [List.mem_take_iff_getElem]; exact ⟨j, by omega, rfl⟩)
          simpa using this
        rw [h2]; rfl
      · have h1 : q ps[k] = false := by assumption
        go_roundw
        case rel => exact ⟨k + 1, by omega, by go_num, by have := Hfi.out; rw [List.take_succ_eq_append_getElem hlt, List.findIdx?_append, this]; simp [h1], (by repeat (first | with_reducible exact Below.refl _ _ | with_reducible assumption | with_reducible apply bl_drewN | with_reducible apply bl_drew | with_reducible apply bl_alloc | (with_reducible refine bl_set ?_ (by first | (simp; done) | (simp; omega)) _) | with_reducible refine bl_trans ?_ (by with_reducible assumption)))⟩
        case measure => simp [intOf]; omega
    · go_wp2
      go_ret
      refine ⟨?_, (by repeat (first | with_reducible exact Below.refl _ _ | with_reducible assumption | with_reducible apply bl_drewN | with_reducible apply bl_drew | with_reducible apply bl_alloc | (with_reducible refine bl_set ?_ (by first | (simp; done) | (simp; omega)) _) | with_reducible refine bl_trans ?_ (by with_reducible assumption)))⟩
      have h2 := Hfi.out
      rw [List.take_of_length_le (by omega)] at h2
      rw [h2]; rfl

theorem PcsOk.take {ps : List Pc} (h : PcsOk ps) (k : Nat) : PcsOk (ps.take k) := by
  intro j hj
  rw [List.getElem_take]
  exact h j (by rw [List.length_take] at hj; omega)

end Go.Proofs.YtmeefmoblkiebaaGreat
/- Contracts for CornersIn and SlowLine. -/
namespace Go.Proofs.YtmeefmoblkiebaaGreat
open Go.RowKit
set_option linter.unusedVariables false
set_option linter.unusedSimpArgs false
set_option maxHeartbeats 400000
set_option maxRecDepth 100000
theorem clonePc_any {B : Nat} (a : Option Addr) (cap : Nat) (ps : List Pc) (w : World) (hps : PcsAt B w a ps) (hB : B ≤ w.heap.size) (hn : ps.length ≤ 10000000) :
    Calls Tryz.prog 131 #[.slice a ps.length cap] w fun e w' => ∃ v, e = .returned v ∧ w'.ownsRow w.heap.size 49 5 v ps.length (flat Pc.cells ps) ∧ Below w.heap.size w w' := by
  obtain ⟨i0, hi, hz0, hz1, hz2⟩ := info_parts Tryz.infoPiece
  have heq := fun (w : World) => Lib.run_eql_slice_nil (P := Tryz.prog) w 25 49 a ps.length cap 0 0 Tryz.underlying25
  cases a with
  | none =>
    have hp : ps = [] := by
      cases ps with
      | nil => rfl
      | cons p ps => obtain ⟨b, off, h0, -⟩ := hps 0 (by simp [flat, Pc.cells]); cases h0
    have Hp := Lib.hid hp
    clear hi hz0 hz1 hz2 hp
    go_enter Tryz.func131, Tryz.ntmps131
    go_wp2
    go_ret
    exact ⟨_, rfl, by rw [Hp.out]; exact World.ownsRow_nil w w.heap.size 49 5, Below.refl _ _⟩
  | some ad =>
    go_enter Tryz.func131, Tryz.ntmps131
    go_wp2_with (at_builtin; refine wpList_append_sl _ rfl _ _ 25 rfl w.heap.size 49 i0 (.agg #[.int .i8 0, .int .i8 0, .int .i8 0, .int .i8 0, .int .i8 0]) 5 5 Tryz.underlying25 hi hz0 hz1 hz2 rfl (by decide) _ 0 [] rfl (World.ownsRow_made w _ 0 (Nat.le_refl _) (by simp [maxLen]) rfl) (some ad) ps.length cap (flat Pc.cells ps) rfl (hps.below (bl_alloc (Below.refl _ _)) hB) (flat_length Pc.len ps) (one_cells Pc.one ps) (by unfold maxLen; omega) (by omega) (by simp) ?_; intro v1 w1 hown hgrow)
    go_ret
    rw [Nat.zero_add, List.nil_append] at hown
    exact ⟨_, rfl, hown, bl_grown (bl_alloc (Below.refl _ _)) hgrow (by intro k hk; have : some w.heap.size = some k := hk; cases this; exact Nat.le_refl _)⟩
end Go.Proofs.YtmeefmoblkiebaaGreat
/- Contracts for SlowLine. -/
namespace Go.Proofs.YtmeefmoblkiebaaGreat
open Go.RowKit
set_option linter.unusedVariables false
set_option linter.unusedSimpArgs false
set_option maxHeartbeats 400000
set_option maxRecDepth 100000
end Go.Proofs.YtmeefmoblkiebaaGreat
/- The statements CornersIn and SlowLine, walked. -/
namespace Go.Proofs.YtmeefmoblkiebaaGreat
open Go.RowKit
set_option linter.unusedVariables false
set_option linter.unusedSimpArgs false
set_option maxHeartbeats 400000
set_option maxRecDepth 100000

/-- A value that reads as a list of pieces. -/
def PV (w : World) (v : Value) (l : List Pc) : Prop := ∃ a cap, v = .slice a l.length cap ∧ PcsAt w.heap.size w a l
theorem PV.step {w w' : World} {v : Value} {l : List Pc} (h : PV w v l) (hb : Below w.heap.size w w') : PV w' v l := by
  obtain ⟨a, cap, rfl, h⟩ := h
  exact ⟨a, cap, rfl, (h.below hb (Nat.le_refl _)).mono hb.size⟩
theorem own_pv {w : World} {base e : Nat} {v : Value} {l : List Pc} (h : w.ownsRow base e 5 v l.length (flat Pc.cells l)) : PV w v l := by
  obtain ⟨a, cap, rfl, h, -⟩ := own_at h
  exact ⟨a, cap, rfl, h⟩
/-- Two rows of which one is younger. -/
theorem own_apart {w w' : World} {base base' e e' s s' n n' : Nat} {v v' : Value} {xs xs' : List Value} (h : w.ownsRow base e s v n xs) (h' : w'.ownsRow base' e' s' v' n' xs') (hb : w.heap.size ≤ base') : ∀ k, v.ownBlock = some k → some k ≠ v'.ownBlock := by
  intro k hk e
  have h1 := (h.lt k hk).2
  have h2 := (h'.lt k e.symm).1
  omega
theorem own_apart' {w w' : World} {base base' e e' s s' n n' : Nat} {v v' : Value} {xs xs' : List Value} (h : w.ownsRow base e s v n xs) (h' : w'.ownsRow base' e' s' v' n' xs') (hb : w.heap.size ≤ base') : ∀ k, v'.ownBlock = some k → some k ≠ v.ownBlock := by
  intro k hk e
  have h1 := (h.lt k e.symm).2
  have h2 := (h'.lt k hk).1
  omega


end Go.Proofs.YtmeefmoblkiebaaGreat
/- What reads as a list of a type that is whole numbers alone. -/
namespace Go.Proofs.YtmeefmoblkiebaaGreat
open Go.RowKit
def RV {α : Type} (f : α → List Value) (w : World) (v : Value) (l : List α) : Prop := ∃ a cap, v = .slice a l.length cap ∧ SlAt w.heap.size w a (flat f l)
theorem RV.step {α : Type} {f : α → List Value} {w w' : World} {v : Value} {l : List α} (h : RV f w v l) (hb : Below w.heap.size w w') : RV f w' v l := by
  obtain ⟨a, cap, rfl, h⟩ := h
  exact ⟨a, cap, rfl, (h.below hb (Nat.le_refl _)).mono hb.size⟩
theorem own_rv {α : Type} {f : α → List Value} {w : World} {base e s : Nat} {v : Value} {l : List α} (h : w.ownsRow base e s v l.length (flat f l)) : RV f w v l := by
  obtain ⟨a, cap, rfl, h, -⟩ := own_at h
  exact ⟨a, cap, rfl, h⟩
end Go.Proofs.YtmeefmoblkiebaaGreat
/- Ports as lists of cells. -/
namespace Go.Proofs.YtmeefmoblkiebaaGreat
open Go.RowKit
set_option linter.unusedVariables false
set_option linter.unusedSimpArgs false
set_option maxHeartbeats 400000
set_option maxRecDepth 100000
structure Po where
  x : Int
  y : Int
  s : Int
  deriving Inhabited, DecidableEq
def Po.ok (p : Po) : Prop := I8 p.x ∧ I8 p.y ∧ I8 p.s
def Po.cells (p : Po) : List Value := [.int .i8 p.x, .int .i8 p.y, .int .i8 p.s]
abbrev Po.val (p : Po) : Value := .agg #[.int .i8 p.x, .int .i8 p.y, .int .i8 p.s]
theorem Po.len (p : Po) : (Po.cells p).length = 3 := rfl
theorem Po.one (p : Po) : ∀ u ∈ Po.cells p, u.oneCell' = true := by
  intro u hu
  simp only [Po.cells, List.mem_cons, List.not_mem_nil, or_false] at hu
  rcases hu with rfl | rfl | rfl <;> rfl
def PoAt (w : World) (b off : Nat) (p : Po) : Prop :=
  w.cell? ⟨b, off, none⟩ = some (.int .i8 p.x) ∧ w.cell? ⟨b, off + 1, none⟩ = some (.int .i8 p.y) ∧ w.cell? ⟨b, off + 2, none⟩ = some (.int .i8 p.s)
theorem pos_get {B : Nat} {w : World} {a : Option Addr} {ps : List Po} (h : SlAt B w a (flat Po.cells ps)) {k : Nat} (hk : k < ps.length) :
    ∃ b off, a = some ⟨b, off, none⟩ ∧ b < B ∧ PoAt w b (off + k * 3) ps[k] := by
  obtain ⟨b, off, h1, h2, h3⟩ := SlAt.get Po.len (by omega) h hk
  exact ⟨b, off, h1, h2, h3 0 _ rfl, h3 1 _ rfl, h3 2 _ rfl⟩
end Go.Proofs.YtmeefmoblkiebaaGreat
/- Contracts: boards and ways in the statements' own file. -/
namespace Go.Proofs.YtmeefmoblkiebaaGreat
open Go.RowKit
set_option linter.unusedVariables false
set_option linter.unusedSimpArgs false
set_option maxHeartbeats 400000
set_option maxRecDepth 100000

structure Bd where
  wd : Int
  hg : Int
  ps : List Pc

def Bd.ok (b : Bd) : Prop := I8 b.wd ∧ I8 b.hg ∧ PcsOk b.ps
abbrev bdv (wd hg : Int) (s : Value) : Value := .agg #[.int .i8 wd, .int .i8 hg, s]
/-- A value that reads as a board. -/
def BV (w : World) (v : Value) (b : Bd) : Prop := ∃ s, v = bdv b.wd b.hg s ∧ PV w s b.ps
theorem BV.step {w w' : World} {v : Value} {l : Bd} (h : BV w v l) (hb : Below w.heap.size w w') : BV w' v l := by
  obtain ⟨s, rfl, h⟩ := h
  exact ⟨s, rfl, h.step hb⟩

structure Wy where
  fx : Int
  fy : Int
  sd : Int
  tx : Int
  ty : Int
  out : Int
  deriving Inhabited, DecidableEq
def Wy.ok (p : Wy) : Prop := (I8 p.fx ∧ I8 p.fy) ∧ I8 p.sd ∧ (I8 p.tx ∧ I8 p.ty) ∧ I8 p.out
abbrev Wy.val (p : Wy) : Value := .agg #[.int .i8 p.fx, .int .i8 p.fy, .int .i8 p.sd, .int .i8 p.tx, .int .i8 p.ty, .int .i8 p.out]

end Go.Proofs.YtmeefmoblkiebaaGreat
/- Maps whose keys are cells of a board: look-ups and stores. -/
namespace Go.Proofs.YtmeefmoblkiebaaGreat
open Go.RowKit
set_option linter.unusedVariables false

/-- The type of a cell, and of its two numbers. -/
structure CeTy (P : Program) (k : TypeId) where
  e : TypeId
  hk : P.underlying k = some (.array 2 e)
  he : P.underlying e = some (.int .i8)
  hs : P.cellsOf e = 1
  hp : P.plainKey e = true

theorem equal_ce {P : Program} {k : TypeId} (h : CeTy P k) (c d : Ce) (w : World) : (Op.equal k c.val d.val).run P w = .ok (decide (c = d)) w := by
  obtain ⟨x, y⟩ := c
  obtain ⟨x', y'⟩ := d
  obtain ⟨i, hi⟩ := info_of_underlying h.he
  have h0 := run_equalIn_array w 9999 #[.int .i8 x, .int .i8 y] #[.int .i8 x', .int .i8 y'] h.hk hi
  have e1 : ∀ a b : Int, (Op.equalIn 9999 h.e (.int .i8 a) (.int .i8 b)).run P w = .ok (a == b) w := fun a b => run_equalIn_int w 9998 h.e .i8 .i8 a b h.he
  have e2 : ∀ (xs : Array Value) (off : Nat) (v : Value), xs[off]? = some v → (part h.e xs off).run P w = .ok v w := fun xs off v hx => run_part_plain w h.hp hx
  unfold Op.equal
  show (Op.equalIn (9999 + 1) k _ _).run P w = _
  rw [h0, h.hs]
  have r2 : List.range 2 = [0, 1] := rfl
  rw [r2]
  have p0 := e2 #[.int .i8 x, .int .i8 y] 0 (.int .i8 x) rfl
  have p1 := e2 #[.int .i8 x, .int .i8 y] 1 (.int .i8 y) rfl
  have p2 := e2 #[.int .i8 x', .int .i8 y'] 0 (.int .i8 x') rfl
  have p3 := e2 #[.int .i8 x', .int .i8 y'] 1 (.int .i8 y') rfl
  simp only [Op.eqItems, Sem.run_bind, Nat.zero_mul, Nat.one_mul, p0, p2, e1, Result.andThen_ok]
  by_cases h1 : x = x'
  · subst h1
    simp only [beq_self_eq_true, Bool.not_true, Bool.false_eq_true, if_false, Sem.run_bind, p1, p3, e1, Result.andThen_ok]
    by_cases h2 : y = y' <;> simp [h2]
  · simp [h1]

theorem check_ce {P : Program} {k : TypeId} (h : CeTy P k) (em : Bool) (c : Ce) (w : World) : (Instr.checkKey em 10000 k c.val).run P w = .ok () w := by
  obtain ⟨i, hi⟩ := info_of_underlying h.he
  have e2 : ∀ (xs : Array Value) (off : Nat) (v : Value), xs[off]? = some v → (part h.e xs off).run P w = .ok v w := fun xs off v hx => run_part_plain w h.hp hx
  have e1 : ∀ (n : Nat) (a : Int), (Instr.checkKey em (n + 1) h.e (.int .i8 a)).run P w = .ok () w := by
    intro n a
    simp [Instr.checkKey, run_underlying h.he]
  have p0 := e2 #[.int .i8 c.x, .int .i8 c.y] 0 (.int .i8 c.x) rfl
  have p1 := e2 #[.int .i8 c.x, .int .i8 c.y] 1 (.int .i8 c.y) rfl
  have key : ∀ n : Nat, (Instr.checkKey em (n + 2) k c.val).run P w = .ok () w := by
    intro n
    rw [Instr.checkKey]
    simp only [Sem.run_bind, run_underlying h.hk, Result.andThen_ok]
    have r2 : List.range' 0 2 = [0, 1] := rfl
    simp [r2, run_sizeOf w hi, h.hs, e1, p0, p1]
  exact key 9998
/-- Block m of w is a map from cells to values. -/
def MapAt (w : World) (m : Nat) (kv : List (Ce × Value)) : Prop :=
  ∃ es clock, w.heap[m]? = some (.map es clock) ∧ es.toList.map (fun e => (e.key, e.val)) = kv.map (fun p => (p.1.val, p.2))

/-- What a look-up finds, with its place. -/
def mfind (c : Ce) : List (Ce × Value) → Nat → Option (Nat × Value)
  | [], _ => none
  | p :: r, i => if c = p.1 then some (i, p.2) else mfind c r (i + 1)

theorem asking_ce {P : Program} {k : TypeId} (h : CeTy P k) (c : Ce) (w : World) : ∀ (es : List MapEntry) (kv : List (Ce × Value)) (i : Nat), es.map (fun e => (e.key, e.val)) = kv.map (fun p => (p.1.val, p.2)) →
    (Instr.findAsking k c.val es i).run P w = .ok (mfind c kv i) w := by
  intro es
  induction es with
  | nil =>
    intro kv i he
    cases kv with
    | nil => rfl
    | cons p r => simp at he
  | cons e es ih =>
    intro kv i he
    cases kv with
    | nil => simp at he
    | cons p r =>
      simp only [List.map_cons, List.cons.injEq, Prod.mk.injEq] at he
      obtain ⟨⟨hk, hv⟩, hr⟩ := he
      simp only [Instr.findAsking, Sem.run_bind, hk, equal_ce h, Result.andThen_ok, mfind]
      by_cases hc : c = p.1
      · simp [hc, hv]
      · simp only [hc, decide_false, if_false, Bool.false_eq_true]
        exact ih r (i + 1) hr

theorem key_ce {P : Program} {k : TypeId} (h : CeTy P k) (c : Ce) (w : World) (es : List MapEntry) (kv : List (Ce × Value)) (he : es.map (fun e => (e.key, e.val)) = kv.map (fun p => (p.1.val, p.2))) :
    (Instr.findKey k c.val es).run P w = .ok (mfind c kv 0) w := by
  unfold Instr.findKey
  simp only [Sem.run_bind, run_underlying h.hk, Result.andThen_ok]
  cases es with
  | nil =>
    cases kv with
    | nil => simp [Instr.findNow, mfind]
    | cons p r => simp at he
  | cons e es =>
    have : Instr.findNow (.array 2 h.e) c.val (e :: es) 0 = none := by
      have hk : ∃ p r, kv = p :: r := by
        cases kv with
        | nil => simp at he
        | cons p r => exact ⟨p, r, rfl⟩
      obtain ⟨p, r, rfl⟩ := hk
      simp only [List.map_cons, List.cons.injEq, Prod.mk.injEq] at he
      simp [Instr.findNow, Instr.sameNow]
    rw [this]
    exact asking_ce h c w (e :: es) kv 0 he

/-- 'm[c]', 'v, ok := m[c]'. -/
theorem run_lookup_ce {P : Program} {k t et : TypeId} (h : CeTy P k) (ht : P.underlying t = some (.map k et)) (z : Value) (hz : ∀ w, (zeroValue et).run P w = .ok z w) {w : World} {m : Nat} {kv : List (Ce × Value)} (hm : MapAt w m kv) (c : Ce) (ok : Bool) :
    (Instr.lookup t (.map (some m)) c.val ok).run P w = .ok (if ok then .tuple #[((mfind c kv 0).map (·.2)).getD z, .bool (mfind c kv 0).isSome] else ((mfind c kv 0).map (·.2)).getD z) w := by
  obtain ⟨es, clock, hb, he⟩ := hm
  have hg : (getObj m).run P w = .ok (.map es clock) w := by simp [getObj, Sem.run, hb]
  unfold Instr.lookup
  simp only [Sem.run_bind, run_underlying ht, Result.andThen_ok, hg, Sem.run_pure, check_ce h, key_ce h c w es.toList kv he]
  cases hf : mfind c kv 0 with
  | none => cases ok <;> simp [hz]
  | some p => cases ok <;> simp

def mget (c : Ce) (kv : List (Ce × Value)) : Option Value := (mfind c kv 0).map (·.2)
def mput (c : Ce) (v : Value) : List (Ce × Value) → List (Ce × Value)
  | [] => [(c, v)]
  | p :: r => if c = p.1 then (c, v) :: r else p :: mput c v r

theorem mfind_off (c : Ce) : ∀ (kv : List (Ce × Value)) (i j : Nat), mfind c kv (i + j) = (mfind c kv i).map (fun p => (p.1 + j, p.2)) := by
  intro kv
  induction kv with
  | nil => intro i j; rfl
  | cons p r ih =>
    intro i j
    simp only [mfind]
    by_cases h : c = p.1
    · simp [h]
    · simp only [h, if_false]; rw [show i + j + 1 = (i + 1) + j by omega]; exact ih (i + 1) j

theorem mget_cons (c : Ce) (p : Ce × Value) (r : List (Ce × Value)) : mget c (p :: r) = if c = p.1 then some p.2 else mget c r := by
  unfold mget
  simp only [mfind]
  by_cases h : c = p.1
  · simp [h]
  · simp only [h, if_false]; rw [mfind_off c r 0 1]; cases mfind c r 0 <;> rfl

theorem mget_nil (c : Ce) : mget c [] = none := rfl

theorem mget_put (c d : Ce) (v : Value) : ∀ kv : List (Ce × Value), mget d (mput c v kv) = if d = c then some v else mget d kv := by
  intro kv
  induction kv with
  | nil => simp [mput, mget_cons, mget_nil]
  | cons p r ih =>
    simp only [mput]
    by_cases h : c = p.1
    · rw [if_pos h, mget_cons, mget_cons]
      by_cases h2 : d = c
      · simp [h2]
      · simp only [h2, if_false]; rw [if_neg (by rw [← h]; exact h2)]
    · rw [if_neg h, mget_cons, mget_cons, ih]
      by_cases h2 : d = p.1
      · rw [if_pos h2, if_pos h2, if_neg (by rw [h2]; exact fun e => h e.symm)]
      · rw [if_neg h2, if_neg h2]

theorem mput_some (c : Ce) (v : Value) : ∀ (kv : List (Ce × Value)) (i : Nat) (u : Value), mfind c kv 0 = some (i, u) → mput c v kv = kv.modify i (fun p => (p.1, v)) ∧ ∃ p, kv[i]? = some p ∧ p.1 = c := by
  intro kv
  induction kv with
  | nil => intro i u h; simp [mfind] at h
  | cons p r ih =>
    intro i u h
    simp only [mfind] at h
    by_cases hc : c = p.1
    · simp only [hc, if_true, Option.some.injEq, Prod.mk.injEq] at h
      obtain ⟨rfl, rfl⟩ := h
      exact ⟨by simp [mput, hc], p, rfl, hc.symm⟩
    · rw [if_neg hc, mfind_off c r 0 1] at h
      cases hm : mfind c r 0 with
      | none => simp [hm] at h
      | some q =>
        simp only [hm, Option.map_some, Option.some.injEq, Prod.mk.injEq] at h
        obtain ⟨rfl, rfl⟩ := h
        obtain ⟨h1, h2⟩ := ih q.1 q.2 hm
        exact ⟨by simp [mput, hc, h1], by simpa using h2⟩

theorem mput_none (c : Ce) (v : Value) : ∀ (kv : List (Ce × Value)), mfind c kv 0 = none → mput c v kv = kv ++ [(c, v)] := by
  intro kv
  induction kv with
  | nil => intro _; rfl
  | cons p r ih =>
    intro h
    simp only [mfind] at h
    by_cases hc : c = p.1
    · simp [hc] at h
    · rw [if_neg hc, mfind_off c r 0 1] at h
      simp only [mput, hc, if_false, List.cons_append]
      rw [ih (by cases hm : mfind c r 0 <;> simp_all)]

theorem same_ce (c : Ce) : Instr.sameBits 10000 c.val c.val = true := by
  have : ∀ n, Instr.sameBits (n + 2) c.val c.val = true := by intro n; simp [Instr.sameBits]
  exact this 9998

/-- 'm[c] = v'. -/
theorem run_update_ce {P : Program} {k t et : TypeId} (h : CeTy P k) (ht : P.underlying t = some (.map k et)) {w : World} {m : Nat} {kv : List (Ce × Value)} (hm : MapAt w m kv) (c : Ce) (v : Value) :
    ∃ w', (Instr.mapUpdate t (.map (some m)) c.val v).run P w = .ok () w' ∧ MapAt w' m (mput c v kv) ∧ w.grownBy w' (some m) ∧ w'.heap.size = w.heap.size := by
  obtain ⟨es, clock, hb, he⟩ := hm
  have hlt : m < w.heap.size := (Array.getElem?_eq_some_iff.1 hb).1
  have hg : (getObj m).run P w = .ok (.map es clock) w := by simp [getObj, Sem.run, hb]
  have hs : ∀ o, (setObj m o).run P w = .ok () { w with heap := w.heap.setIfInBounds m o } := by intro o; simp [setObj, Sem.run, hb]
  have hgr : ∀ o, w.grownBy { w with heap := w.heap.setIfInBounds m o } (some m) := fun o =>
    ⟨rfl, rfl, rfl, by simp, fun j _ hj => by
      have : m ≠ j := fun e => hj (by rw [e])
      simp [this]⟩
  unfold Instr.mapUpdate
  simp only [Sem.run_bind, run_underlying ht, Result.andThen_ok, hg, check_ce h, key_ce h c w es.toList kv he]
  cases hf : mfind c kv 0 with
  | none =>
    refine ⟨{ w with heap := w.heap.setIfInBounds m (.map (es.push ⟨c.val, v, clock⟩) (clock + 1)) }, by simp [hs], ?_, hgr _, by simp⟩
    refine ⟨es.push ⟨c.val, v, clock⟩, clock + 1, by simp [hlt], ?_⟩
    rw [mput_none c v kv hf]
    simp [he]
  | some q =>
    obtain ⟨i, u⟩ := q
    obtain ⟨h1, p, h2, h3⟩ := mput_some c v kv i u hf
    have hl : es.toList.length = kv.length := by have := congrArg List.length he; simpa using this
    have hi : i < kv.length := (List.getElem?_eq_some_iff.1 h2).1
    have hie : i < es.size := by rw [← hl] at hi; simpa using hi
    have hkey : es[i]? = some es[i] := Array.getElem?_eq_getElem hie
    have hk2 : es[i].key = c.val := by
      have := congrArg (fun l => l[i]?) he
      simp only [List.getElem?_map, h2] at this
      rw [show es.toList[i]? = some es[i] by simp] at this
      simp only [Option.map_some, Option.some.injEq, Prod.mk.injEq] at this
      rw [this.1, h3]
    refine ⟨{ w with heap := w.heap.setIfInBounds m (.map (es.modify i fun e => { e with key := c.val, val := v }) clock) }, ?_, ?_, hgr _, by simp⟩
    · simp [hkey, hk2, Instr.keyThatStays, same_ce, hs]
    · refine ⟨es.modify i fun e => { e with key := c.val, val := v }, clock, by simp [hlt], ?_⟩
      rw [h1]
      apply List.ext_getElem?
      intro j
      have hej := congrArg (fun l => l[j]?) he
      simp only [List.getElem?_map] at hej
      simp only [Array.toList_modify, List.getElem?_map, List.getElem?_modify]
      by_cases hij : i = j
      · subst hij
        rw [h2] at hej ⊢
        rw [show es.toList[i]? = some es[i] by simp] at hej ⊢
        simp [h3]
      · simp only [hij, if_false]
        simpa using hej

theorem map_below {B : Nat} {w w' : World} {m : Nat} {kv : List (Ce × Value)} (hm : MapAt w m kv) (hb : Below B w w') (h : m < B) : MapAt w' m kv := by
  obtain ⟨es, clock, h1, h2⟩ := hm
  exact ⟨es, clock, by rw [hb.block m h]; exact h1, h2⟩
theorem map_new (w : World) : MapAt (w.alloc (.map #[] 0)) w.heap.size [] := ⟨#[], 0, heap_alloc_new w _, by simp⟩
theorem map_alloc {w : World} {m : Nat} {kv : List (Ce × Value)} (hm : MapAt w m kv) (o : Obj) : MapAt (w.alloc o) m kv := by
  obtain ⟨es, clock, h1, h2⟩ := hm
  exact ⟨es, clock, by rw [Below.heap_alloc w o m (Array.getElem?_eq_some_iff.1 h1).1]; exact h1, h2⟩
theorem map_lt {w : World} {m : Nat} {kv : List (Ce × Value)} (hm : MapAt w m kv) : m < w.heap.size := by
  obtain ⟨es, clock, h1, h2⟩ := hm
  exact (Array.getElem?_eq_some_iff.1 h1).1

/-- 'm[c] = v' for the walk. -/
theorem wpList_update_ce {P : Program} (w : World) {ops : Array Oper} {rest : List Oper} {o : Oper} {a : Act} {Q : Exit → Act → World → Prop}
    (hg : o.guard = none) (m x v : Operand) (t : TypeId) (hop : o.op = Op.mapUpdate t m x v) {k et : TypeId} (h : CeTy P k) (ht : P.underlying t = some (.map k et)) (b : Nat) (kv : List (Ce × Value))
    (hm : a.eval m = .map (some b)) (hown : MapAt w b kv) (c : Ce) (val : Value) (hx : a.eval x = c.val) (hv : a.eval v = val)
    (hK : ∀ w', MapAt w' b (mput c val kv) → w.grownBy w' (some b) → w'.heap.size = w.heap.size → wpList P ops Q rest (a.put o.dst undef) w') :
    wpList P ops Q (o :: rest) a w := by
  refine wpList_plain hg fun K' hK' => ?_
  obtain ⟨w', hrun, r1, r2, r3⟩ := run_update_ce h ht hown c val
  unfold Oper.wp
  simp [execOp, hop, hm, hx, hv, hrun, Result.andThen]
  exact hK' _ _ (hK w' r1 r2 r3)

/-- A map of marks: what has been seen. -/
def marks (l : List Ce) : List (Ce × Value) := l.map fun c => (c, Value.bool true)

theorem mget_marks (c : Ce) : ∀ l : List Ce, ((mfind c (marks l) 0).map (·.2)).getD (.bool false) = .bool (decide (c ∈ l)) := by
  intro l
  show (mget c (marks l)).getD _ = _
  induction l with
  | nil => rfl
  | cons d l ih =>
    rw [marks, List.map_cons, mget_cons]
    by_cases h : c = d
    · simp [h]
    · rw [if_neg h]; rw [marks] at ih; rw [ih]; simp [h]

theorem mput_marks (c : Ce) : ∀ l : List Ce, mput c (.bool true) (marks l) = marks (if c ∈ l then l else l ++ [c]) := by
  intro l
  induction l with
  | nil => simp [marks, mput]
  | cons d l ih =>
    simp only [marks, List.map_cons, mput] at ih ⊢
    by_cases h : c = d
    · simp [h]
    · rw [if_neg h, ih]
      by_cases h2 : c ∈ l <;> simp [h, h2]

end Go.Proofs.YtmeefmoblkiebaaGreat
/- Contracts: which boards are valid; what stands in a cell. -/
namespace Go.Proofs.YtmeefmoblkiebaaGreat
open Go.RowKit
set_option linter.unusedVariables false
set_option linter.unusedSimpArgs false
set_option maxHeartbeats 400000
set_option maxRecDepth 100000

/-- A board's head in memory. -/
def BdAt (w : World) (b : Nat) (wd hg : Int) (s : Value) : Prop :=
  w.cell? ⟨b, 0, none⟩ = some (.int .i8 wd) ∧ w.cell? ⟨b, 1, none⟩ = some (.int .i8 hg) ∧ w.cell? ⟨b, 2, none⟩ = some s
/-- A pointer's block that holds a board. -/
def BP (w : World) (b : Nat) (l : Bd) : Prop := b < w.heap.size ∧ ∃ s, BdAt w b l.wd l.hg s ∧ PV w s l.ps
theorem BP.step {w w' : World} {b : Nat} {l : Bd} (h : BP w b l) (hb : Below w.heap.size w w') : BP w' b l := by
  obtain ⟨h1, s, h2, h3⟩ := h
  refine ⟨Nat.lt_of_lt_of_le h1 hb.size, s, ?_, h3.step hb⟩
  unfold BdAt at *
  simp only [hb.cell (p := ⟨b, _, none⟩) h1]
  exact h2
theorem BP.new {w : World} {l : Bd} {s : Value} (h : PV w s l.ps) (T : TypeId) : BP (w.alloc (.cells #[.int .i8 l.wd, .int .i8 l.hg, s] T)) w.heap.size l := by
  refine ⟨by simp, s, ?_, h.step (bl_alloc (Below.refl _ _))⟩
  have hh := heap_alloc_new w (.cells #[.int .i8 l.wd, .int .i8 l.hg, s] T)
  refine ⟨?_, ?_, ?_⟩ <;> (rw [cell_of_row _ _ _ _ _ _ hh]; rfl)

theorem ceTy : ∃ h : CeTy Tryz.prog 47, h.e = 24 := ⟨{ e := 24, hk := Tryz.underlying47, he := Tryz.underlying24, hs := by kernel_rfl, hp := by kernel_rfl }, rfl⟩

theorem run_eql_ce (x y x' y' : Int) (w : World) : (binOp .eql 47 (.agg #[.int .i8 x, .int .i8 y]) (.agg #[.int .i8 x', .int .i8 y'])).run Tryz.prog w = .ok (.bool (decide ((⟨x, y⟩ : Ce) = ⟨x', y'⟩))) w := by
  obtain ⟨h, -⟩ := ceTy
  have := equal_ce h ⟨x, y⟩ ⟨x', y'⟩ w
  simp only [binOp]
  simp [this]
theorem run_neq_ce (x y x' y' : Int) (w : World) : (binOp .neq 47 (.agg #[.int .i8 x, .int .i8 y]) (.agg #[.int .i8 x', .int .i8 y'])).run Tryz.prog w = .ok (.bool (!decide ((⟨x, y⟩ : Ce) = ⟨x', y'⟩))) w := by
  obtain ⟨h, -⟩ := ceTy
  have := equal_ce h ⟨x, y⟩ ⟨x', y'⟩ w
  simp only [binOp]
  simp [this]

/-- The place of the first piece in a cell; -1 where there is none. -/
def fnd (c : Ce) (ps : List Pc) : Int := (ps.findIdx? (fun p => decide (p.at_ = c))).elim (-1) (fun n => (n : Int))

theorem l01Find_any (b : Nat) (l : Bd) (c : Ce) (w : World) (h : BP w b l) (hn : l.ps.length ≤ 10000000) :
    Calls Tryz.prog 104 #[.pointer (some ⟨b, 0, none⟩), c.val] w fun e w' => e = .returned (.int .i64 (fnd c l.ps)) ∧ Below w.heap.size w w' := by
  obtain ⟨hbl, s, hbd, a, cap, rfl, hps⟩ := h
  obtain ⟨wd, hg, ps⟩ := l
  obtain ⟨cx, cy⟩ := c
  unfold BdAt at hbd
  simp only at hbd hps hn ⊢
  have heq := run_eql_ce
  go_enter Tryz.func104, Tryz.ntmps104
  go_wp2
  go_loopw [5] (fun i wr => ∃ k : Nat, k ≤ ps.length ∧ i = .int .i64 k ∧ (ps.take k).findIdx? (fun p => decide (p.at_ = ⟨cx, cy⟩)) = none ∧ Below (w.heap.size + 1) (w.alloc (.cells #[.int .i8 cx, .int .i8 cy] 47)) wr) (fun i _ => ps.length - (intOf i).toNat)
  case atStart => exact ⟨0, by omega, rfl, by simp, Below.refl _ _⟩
  case round =>
    obtain ⟨k, hk, rfl, hfi, hb⟩ := hrel
    have hb2 : Below (w.alloc (.cells #[.int .i8 cx, .int .i8 cy] 47)).heap.size (w.alloc (.cells #[.int .i8 cx, .int .i8 cy] 47)) wr := by simpa using hb
    have Hfi := Lib.hid hfi; clear hfi
    obtain ⟨hc, hf⟩ := bcell hb2
    simp at hc hf
    have hwz : w.heap.size + 1 ≤ wr.heap.size := by simpa using hb2.size
    clear hb2
    have hbw : Below w.heap.size w wr := bl_trans (bl_alloc (Below.refl _ _)) (by simpa using hb)
    by_cases hlt : k < ps.length
    · obtain ⟨b', off, rfl, hbl', hat⟩ := pcs_get hps hlt
      unfold PcAt at hat
      have l1 : b < wr.heap.size := by omega
      have l2 : b' < wr.heap.size := by omega
      have l3 : w.heap.size < wr.heap.size := by omega
      go_wp2
      (refine wp_region_ext (by kernel_rfl) (by kernel_rfl) ?_; have hX := @ext_cell; (repeat (go_big_quiet_step (fail))); refine wpQuiet_nil ?_; clear hX; intro wx hw'; obtain ⟨⟨wx, hbx⟩, rfl⟩ := hw'; obtain ⟨hcx, hfx⟩ := bcell hbx)
      go_wp2
      · have h1 : ps[k].x = cx ∧ ps[k].y = cy := by assumption
        go_ret
        have h2 : ps.findIdx? (fun p => decide (p.at_ = ⟨cx, cy⟩)) = some k := by
          rw [List.findIdx?_eq_some_iff_getElem]
          refine ⟨hlt, by simp [Pc.at_, h1], fun j hj => ?_⟩
          have h3 := Hfi.out
          rw [List.findIdx?_eq_none_iff] at h3
          have := h3 ps[j] (by rw [List.mem_take_iff_getElem]; exact ⟨j, by omega, rfl⟩)
          simpa using this
        exact ⟨by unfold fnd; rw [h2]; rfl, (by repeat (first | with_reducible exact Below.refl _ _ | with_reducible assumption | with_reducible apply bl_drewN | with_reducible apply bl_drew | with_reducible apply bl_alloc | (with_reducible refine bl_set ?_ (by first | (simp; done) | (simp; omega)) _) | with_reducible refine bl_trans ?_ (by with_reducible assumption)))⟩
      · have h1 : ¬ ps[k].x = cx ∨ ¬ ps[k].y = cy := by assumption
        go_roundw
        case rel => exact ⟨k + 1, by omega, by go_num, by have := Hfi.out; rw [List.take_succ_eq_append_getElem hlt, List.findIdx?_append, this]; simp [Pc.at_]; omega, hb.trans (hbx.mono (by omega))⟩
        case measure => simp [intOf]; omega
    · go_wp2
      go_ret
      have h2 := Hfi.out
      rw [List.take_of_length_le (by omega)] at h2
      exact ⟨by unfold fnd; rw [h2]; rfl, (by repeat (first | with_reducible exact Below.refl _ _ | with_reducible assumption | with_reducible apply bl_drewN | with_reducible apply bl_drew | with_reducible apply bl_alloc | (with_reducible refine bl_set ?_ (by first | (simp; done) | (simp; omega)) _) | with_reducible refine bl_trans ?_ (by with_reducible assumption)))⟩
theorem eg_at1 (args : Array Value) (w : World) : (callFunc 116 args).run Tryz.prog w = .ok (.enter 116 args) w := by kernel_rfl
theorem at1_any (p : Pc) (c : Ce) (b : Nat) (w : World) (hb : b < w.heap.size) (h : CeAt w b 0 c) :
    Calls Tryz.prog 116 #[p.val, .pointer (some ⟨b, 0, none⟩)] w fun e w' => e = .returned (.bool (decide (p.at_ = c))) ∧ Below w.heap.size w w' := by
  obtain ⟨cx, cy⟩ := c
  unfold CeAt at h
  simp only at h
  have heq := run_eql_ce
  go_enter Tryz.func116, Tryz.ntmps116
  go_wp2
  go_ret
  exact ⟨ret_bool (by simp [Pc.at_]), (by repeat (first | with_reducible exact Below.refl _ _ | with_reducible assumption | with_reducible apply bl_drewN | with_reducible apply bl_drew | with_reducible apply bl_alloc | (with_reducible refine bl_set ?_ (by first | (simp; done) | (simp; omega)) _) | with_reducible refine bl_trans ?_ (by with_reducible assumption)))⟩
theorem at_any (b : Nat) (l : Bd) (c : Ce) (w : World) (h : BP w b l) (hok : l.ok) (hn : l.ps.length ≤ 10000000) :
    Calls Tryz.prog 59 #[.pointer (some ⟨b, 0, none⟩), c.val] w fun e w' => e = .returned (.int .i64 (fnd c l.ps)) ∧ Below w.heap.size w w' := by
  obtain ⟨hbl, s, hbd, a, cap, rfl, hps⟩ := h
  obtain ⟨wd, hg, ps⟩ := l
  unfold BdAt at hbd
  simp only at hbd hps hn ⊢
  have hok3 : PcsOk ps := hok.2.2
  have hbox : ∀ w1, Below (w.alloc (.cells #[.int .i8 c.x, .int .i8 c.y] 47)).heap.size (w.alloc (.cells #[.int .i8 c.x, .int .i8 c.y] 47)) w1 → w.heap.size < w1.heap.size ∧ CeAt w1 w.heap.size 0 c := by
    intro w1 hb
    refine ⟨by have := hb.size; simp at this; omega, ?_⟩
    have hh := heap_alloc_new w (.cells #[.int .i8 c.x, .int .i8 c.y] 47)
    unfold CeAt
    simp only [hb.cell (p := ⟨w.heap.size, _, none⟩) (by simp)]
    refine ⟨?_, ?_⟩ <;> (rw [cell_of_row _ _ _ _ _ _ hh]; rfl)
  have C := indexFuncPc_any 116 #[.pointer (some ⟨w.heap.size, 0, none⟩)] a cap ps (w.alloc (.cells #[.int .i8 c.x, .int .i8 c.y] 47)) (hps.below (bl_alloc (Below.refl _ _)) (Nat.le_refl _)) hok3 (by simp) hn eg_at1 (fun p => decide (p.at_ = c)) (fun p w1 hp hb => at1_any p c w.heap.size w1 (hbox w1 hb).1 (hbox w1 hb).2)
  have HC := Lib.hid C; clear C hbox
  go_enter Tryz.func59, Tryz.ntmps59
  go_wp2_with (go_at_call 115; refine HC.out.mono ?_; rintro e w' ⟨rfl, hb⟩)
  go_ret
  exact ⟨rfl, (by repeat (first | with_reducible exact Below.refl _ _ | with_reducible assumption | with_reducible apply bl_drewN | with_reducible apply bl_drew | with_reducible apply bl_alloc | (with_reducible refine bl_set ?_ (by first | (simp; done) | (simp; omega)) _) | with_reducible refine bl_trans ?_ (by with_reducible assumption)))⟩
theorem has_any (b : Nat) (l : Bd) (c : Ce) (w : World) (h : BP w b l) :
    Calls Tryz.prog 112 #[.pointer (some ⟨b, 0, none⟩), c.val] w fun e w' => e = .returned (.bool (cIn l.wd l.hg c)) ∧ Below w.heap.size w w' := by
  obtain ⟨hbl, s, hw, -⟩ := h
  obtain ⟨wd, hg, ps⟩ := l
  obtain ⟨x, y⟩ := c
  unfold BdAt at hw
  simp only at hw ⊢
  unfold cIn
  rcases dec_cases (0 ≤ x) with ⟨g1, h1⟩ | ⟨g1, h1⟩
  · rcases dec_cases (x < wd) with ⟨g2, h2⟩ | ⟨g2, h2⟩
    · rcases dec_cases (0 ≤ y) with ⟨g3, h3⟩ | ⟨g3, h3⟩
      · go_enter Tryz.func112, Tryz.ntmps112
        go_wp2
        (refine wp_region_ext (by kernel_rfl) (by kernel_rfl) ?_; have hX := @ext_cell; (repeat (go_big_quiet_step (fail))); refine wpQuiet_nil ?_; clear hX; intro wx hw'; obtain ⟨⟨wx, hbx⟩, rfl⟩ := hw'; obtain ⟨hcx, hfx⟩ := bcell hbx)
        go_wp2
        go_ret
        exact ⟨ret_bool (by simp [inB]; omega), (by repeat (first | with_reducible exact Below.refl _ _ | with_reducible assumption | with_reducible apply bl_drewN | with_reducible apply bl_drew | with_reducible apply bl_alloc | (with_reducible refine bl_set ?_ (by first | (simp; done) | (simp; omega)) _) | with_reducible refine bl_trans ?_ (by with_reducible assumption)))⟩
      · go_enter Tryz.func112, Tryz.ntmps112
        go_wp2
        (refine wp_region_ext (by kernel_rfl) (by kernel_rfl) ?_; have hX := @ext_cell; (repeat (go_big_quiet_step (fail))); refine wpQuiet_nil ?_; clear hX; intro wx hw'; obtain ⟨⟨wx, hbx⟩, rfl⟩ := hw'; obtain ⟨hcx, hfx⟩ := bcell hbx)
        go_wp2
        go_ret
        exact ⟨ret_bool (by simp [inB]; omega), (by repeat (first | with_reducible exact Below.refl _ _ | with_reducible assumption | with_reducible apply bl_drewN | with_reducible apply bl_drew | with_reducible apply bl_alloc | (with_reducible refine bl_set ?_ (by first | (simp; done) | (simp; omega)) _) | with_reducible refine bl_trans ?_ (by with_reducible assumption)))⟩
    · go_enter Tryz.func112, Tryz.ntmps112
      go_wp2
      (refine wp_region_ext (by kernel_rfl) (by kernel_rfl) ?_; have hX := @ext_cell; (repeat (go_big_quiet_step (fail))); refine wpQuiet_nil ?_; clear hX; intro wx hw'; obtain ⟨⟨wx, hbx⟩, rfl⟩ := hw'; obtain ⟨hcx, hfx⟩ := bcell hbx)
      go_wp2
      go_ret
      exact ⟨ret_bool (by simp [inB]; omega), (by repeat (first | with_reducible exact Below.refl _ _ | with_reducible assumption | with_reducible apply bl_drewN | with_reducible apply bl_drew | with_reducible apply bl_alloc | (with_reducible refine bl_set ?_ (by first | (simp; done) | (simp; omega)) _) | with_reducible refine bl_trans ?_ (by with_reducible assumption)))⟩
  · go_enter Tryz.func112, Tryz.ntmps112
    go_wp2
    (refine wp_region_ext (by kernel_rfl) (by kernel_rfl) ?_; have hX := @ext_cell; (repeat (go_big_quiet_step (fail))); refine wpQuiet_nil ?_; clear hX; intro wx hw'; obtain ⟨⟨wx, hbx⟩, rfl⟩ := hw'; obtain ⟨hcx, hfx⟩ := bcell hbx)
    go_wp2
    go_ret
    exact ⟨ret_bool (by simp [inB]; omega), (by repeat (first | with_reducible exact Below.refl _ _ | with_reducible assumption | with_reducible apply bl_drewN | with_reducible apply bl_drew | with_reducible apply bl_alloc | (with_reducible refine bl_set ?_ (by first | (simp; done) | (simp; omega)) _) | with_reducible refine bl_trans ?_ (by with_reducible assumption)))⟩
end Go.Proofs.YtmeefmoblkiebaaGreat
/- Contracts: from which sides a piece falls, and what it hits. -/
namespace Go.Proofs.YtmeefmoblkiebaaGreat
open Go.RowKit
set_option linter.unusedVariables false
set_option linter.unusedSimpArgs false
set_option maxHeartbeats 400000
set_option maxRecDepth 100000

abbrev tblA : Array Value := #[.int .i64 (-1), .int .i64 8, .int .i64 (-1), .int .i64 2, .int .i64 (-1), .int .i64 (-1), .int .i64 8, .int .i64 4, .int .i64 12, .int .i64 (-1), .int .i64 9, .int .i64 5, .int .i64 (-1), .int .i64 (-1), .int .i64 (-1), .int .i64 2, .int .i64 0, .int .i64 8, .int .i64 0, .int .i64 2, .int .i64 4, .int .i64 8, .int .i64 1, .int .i64 2]
theorem one_int (k : IntKind) (n : Int) : (Value.int k n).oneCell' = true := rfl
theorem l01Table_any (w : World) :
    Calls Tryz.prog 158 #[] w fun e w' => e = .returned (.agg tblA) ∧ Below w.heap.size w w' := by
  obtain ⟨C, hC⟩ : ∃ C, C = tblA := ⟨_, rfl⟩
  have hz : (Tryz.prog.info? 206).map (·.size) = some C.size := by rw [hC]; kernel_rfl
  have hs : (24 : Nat) = C.size := by rw [hC]; simp
  have ho : C.all (·.oneCell') = true := by rw [hC]; simp [one_int]
  have Hb := Lib.hid hC
  rw [← hC]
  clear hC
  have HZ := Lib.hid hz; clear hz
  have HS := Lib.hid hs; clear hs
  have HO := Lib.hid ho; clear ho
  go_enter Tryz.func158, Tryz.ntmps158
  go_wp2_with (refine wpList_build rfl 206 #[(0, .tmp 1), (1, .tmp 2), (2, .tmp 3), (3, .tmp 4), (4, .tmp 5), (5, .tmp 6)] rfl (by kernel_rfl) ?_; rw [show ((Tryz.prog.built 206 _).getD #[]) = C from by rw [Hb.out]; kernel_rfl]; (refine wpList_store_row rfl 206 (.tmp 0) (.tmp 7) rfl w.heap.size C rfl rfl 206 _ (heap_alloc_last w _) HZ.out (by rw [← HS.out]; simp) HO.out ?_); rw [World.setRow_alloc_new])
  exact bodyPost_ret (v := .agg C) (results_cell_row Tryz.results158 _ _ w.heap.size 206 C (0, 0) _ rfl (heap_alloc_last w _) Tryz.underlying206 rfl HZ.out) rfl ⟨rfl, (by repeat (first | with_reducible exact Below.refl _ _ | with_reducible assumption | with_reducible apply bl_drewN | with_reducible apply bl_drew | with_reducible apply bl_alloc | (with_reducible refine bl_set ?_ (by first | (simp; done) | (simp; omega)) _) | with_reducible refine bl_trans ?_ (by with_reducible assumption)))⟩
def tbl (k r : Int) : Int := ([-1, 8, -1, 2, -1, -1, 8, 4, 12, -1, 9, 5, -1, -1, -1, 2, 0, 8, 0, 2, 4, 8, 1, 2] : List Int).getD (k * 4 + r).toNat 0
abbrev tblRow (k : Int) : Array Value := #[.int .i64 (tbl k 0), .int .i64 (tbl k 1), .int .i64 (tbl k 2), .int .i64 (tbl k 3)]
theorem tbl_index1 (k : Int) (h1 : 0 ≤ k) (h2 : k ≤ 5) (w : World) : (Instr.index 206 (.agg tblA) (.int .i8 k)).run Tryz.prog w = .ok (.agg (tblRow k)) w := by
  have : k = 0 ∨ k = 1 ∨ k = 2 ∨ k = 3 ∨ k = 4 ∨ k = 5 := by omega
  rcases this with rfl | rfl | rfl | rfl | rfl | rfl <;> (show _ = _; kernel_rfl)
theorem tbl_index2 (k r : Int) (h1 : 0 ≤ k) (h2 : k ≤ 5) (h3 : 0 ≤ r) (h4 : r ≤ 3) (w : World) : (Instr.index 205 (.agg (tblRow k)) (.int .i64 r)).run Tryz.prog w = .ok (.int .i64 (tbl k r)) w := by
  have : r = 0 ∨ r = 1 ∨ r = 2 ∨ r = 3 := by omega
  rcases this with rfl | rfl | rfl | rfl <;> (show _ = _; kernel_rfl)
theorem tbl_bd (k r : Int) (h1 : 0 ≤ k) (h2 : k ≤ 5) (h3 : 0 ≤ r) (h4 : r ≤ 3) : -1 ≤ tbl k r ∧ tbl k r ≤ 15 := by
  have : k = 0 ∨ k = 1 ∨ k = 2 ∨ k = 3 ∨ k = 4 ∨ k = 5 := by omega
  have hr : r = 0 ∨ r = 1 ∨ r = 2 ∨ r = 3 := by omega
  rcases this with rfl | rfl | rfl | rfl | rfl | rfl <;> rcases hr with rfl | rfl | rfl | rfl <;> decide
/-- The bits of the sides of 'bits' below j, turned. -/
def hsum (bits t : Int) : Nat → Int
  | 0 => 0
  | j + 1 => hsum bits t j + (if bits / 2 ^ j % 2 = 1 then 2 ^ (((j : Int) + t) % 4).toNat else 0)
theorem hsum_succ (bits t : Int) (j : Nat) : hsum bits t (j + 1) = hsum bits t j + (if bits / 2 ^ j % 2 = 1 then 2 ^ (((j : Int) + t) % 4).toNat else 0) := rfl
theorem pow_bd (m : Int) (h1 : 0 ≤ m) (h2 : m ≤ 3) : ∃ p : Int, 2 ^ m.toNat = p ∧ 1 ≤ p ∧ p ≤ 8 := by
  have hm : m.toNat = 0 ∨ m.toNat = 1 ∨ m.toNat = 2 ∨ m.toNat = 3 := by omega
  rcases hm with hm | hm | hm | hm <;> (rw [hm]; exact ⟨_, rfl, by decide, by decide⟩)
theorem hsum_bd (bits t : Int) (j : Nat) (h : j ≤ 4) : 0 ≤ hsum bits t j ∧ hsum bits t j ≤ 8 * j := by
  induction j with
  | zero => exact ⟨Int.le_refl _, Int.le_refl _⟩
  | succ j ih =>
    obtain ⟨h1, h2⟩ := ih (by omega)
    obtain ⟨p, hp, u3, u4⟩ := pow_bd (((j : Int) + t) % 4) (by omega) (by omega)
    rw [hsum_succ, hp]
    generalize hsum bits t j = o at h1 h2
    split <;> omega
/-- What a piece of a kind, turned, hits when it is hit from a side, as bits; -1: it does not fall. -/
def hitsV (k t s : Int) : Int := if tbl k ((s + 4 - t) % 4) < 0 then -1 else hsum (tbl k ((s + 4 - t) % 4)) t 4
theorem l01Hits_any (x y k t d : Int) (s : Int) (w : World) (b off : Nat) (h : PcAt w b off ⟨x, y, k, t, d⟩) (hb : b < w.heap.size) (h1 : 0 ≤ k) (h2 : k ≤ 5) (h3 : 0 ≤ t) (h4 : t ≤ 3) (h5 : 0 ≤ s) (h6 : s ≤ 3) :
    Calls Tryz.prog 105 #[.pointer (some ⟨b, off, none⟩), .int .i64 s] w fun e w' => e = .returned (.int .i64 (hitsV k t s)) ∧ Below w.heap.size w w' := by
  unfold PcAt at h
  simp only at h
  have w3 := wrap_i8 (n := t) (by omega) (by omega)
  have hr1 : 0 ≤ (s + 4 - t) % 4 := by omega
  have hr2 : (s + 4 - t) % 4 ≤ 3 := by omega
  have I1 := tbl_index1 k h1 h2
  have I2 := tbl_index2 k _ h1 h2 hr1 hr2
  have HT := fun (u : Ext w) => l01Table_any u.w
  generalize tblA = C at I1 HT
  generalize tblRow k = R at I1 I2
  obtain ⟨b1, b2⟩ := tbl_bd k ((s + 4 - t) % 4) h1 h2 hr1 hr2
  have V : hitsV k t s = (if tbl k ((s + 4 - t) % 4) < 0 then -1 else hsum (tbl k ((s + 4 - t) % 4)) t 4) := rfl
  generalize tbl k ((s + 4 - t) % 4) = bits at I2 b1 b2 V
  have HT := Lib.hid HT
  rcases dec_cases (bits < 0) with ⟨g, g'⟩ | ⟨g, g'⟩
  · have V := Lib.hid (V.trans (if_pos g'))
    go_enter Tryz.func105, Tryz.ntmps105
    go_wp2
    (refine wp_region_ext (by kernel_rfl) (by kernel_rfl) ?_; have hX := @ext_cell; (repeat (go_big_quiet_step (first | (go_at_call 158; exact ext_call (HT.out _))))); refine wpQuiet_nil ?_; clear hX; intro wx hw'; obtain ⟨⟨wx, hbx⟩, rfl⟩ := hw'; obtain ⟨hcx, hfx⟩ := bcell hbx)
    go_wp2
    go_ret
    exact ⟨by rw [V.out]; rfl, (by repeat (first | with_reducible exact Below.refl _ _ | with_reducible assumption | with_reducible apply bl_drewN | with_reducible apply bl_drew | with_reducible apply bl_alloc | (with_reducible refine bl_set ?_ (by first | (simp; done) | (simp; omega)) _) | with_reducible refine bl_trans ?_ (by with_reducible assumption)))⟩
  · have V := Lib.hid (V.trans (if_neg (by omega)))
    go_enter Tryz.func105, Tryz.ntmps105
    go_wp2
    (refine wp_region_ext (by kernel_rfl) (by kernel_rfl) ?_; have hX := @ext_cell; (repeat (go_big_quiet_step (first | (go_at_call 158; exact ext_call (HT.out _))))); refine wpQuiet_nil ?_; clear hX; intro wx hw'; obtain ⟨⟨wx, hbx⟩, rfl⟩ := hw'; obtain ⟨hcx, hfx⟩ := bcell hbx)
    go_wp2
    go_loopw [7, 8] (fun o i wr => ∃ j : Nat, j ≤ 4 ∧ i = .int .i64 j ∧ o = .int .i64 (hsum bits t j) ∧ Below w.heap.size w wr) (fun _ i _ => 4 - (intOf i).toNat)
    case atStart => exact ⟨0, by omega, rfl, rfl, (by repeat (first | with_reducible exact Below.refl _ _ | with_reducible assumption | with_reducible apply bl_drewN | with_reducible apply bl_drew | with_reducible apply bl_alloc | (with_reducible refine bl_set ?_ (by first | (simp; done) | (simp; omega)) _) | with_reducible refine bl_trans ?_ (by with_reducible assumption)))⟩
    case round =>
      clear hbx hcx hfx
      obtain ⟨j, hj, rfl, rfl, hb⟩ := hrel
      obtain ⟨u1, u2⟩ := hsum_bd bits t j hj
      obtain ⟨p, hp, u3, u4⟩ := pow_bd ((j + t) % 4) (by omega) (by omega)
      have u5 : wrap64 p = p := by unfold wrap64; omega
      have HS := Lib.hid (hsum_succ bits t j)
      have hgen : ∃ o, o = hsum bits t j := ⟨_, rfl⟩
      obtain ⟨o, ho⟩ := hgen
      rw [← ho] at u1 u2 HS ⊢
      have HO := Lib.hid ho; clear ho
      by_cases hlt : j < 4
      · go_wp2
        · have hg : ((bits / 2 ^ j).tmod 2 == 1) = true := by assumption
          have hg2 : bits / 2 ^ j % 2 = 1 := by
            rw [← Int.tmod_eq_emod_of_nonneg (Int.ediv_nonneg g' (Int.le_of_lt (Int.pow_pos (by decide))))]; simpa using hg
          have HS' := HS.out
          rw [if_pos hg2, hp] at HS'
          go_roundw
          case rel => exact ⟨j + 1, by omega, by go_num, by rw [HS'], hb⟩
          case measure => simp [intOf]; omega
        · have hg : ((bits / 2 ^ j).tmod 2 == 1) = false := by assumption
          have hg2 : ¬ bits / 2 ^ j % 2 = 1 := by
            rw [← Int.tmod_eq_emod_of_nonneg (Int.ediv_nonneg g' (Int.le_of_lt (Int.pow_pos (by decide))))]; simpa using hg
          have HS' := HS.out
          rw [if_neg hg2, Int.add_zero] at HS'
          go_roundw
          case rel => exact ⟨j + 1, by omega, by go_num, by rw [HS'], hb⟩
          case measure => simp [intOf]; omega
      · go_wp2
        go_ret
        have hj4 : j = 4 := by omega
        exact ⟨by rw [V.out, HO.out, hj4]; rfl, hb⟩
end Go.Proofs.YtmeefmoblkiebaaGreat
/- Contracts: slices of Cell, element for element. -/
namespace Go.Proofs.YtmeefmoblkiebaaGreat
open Go.RowKit
set_option linter.unusedVariables false
set_option linter.unusedSimpArgs false
set_option maxHeartbeats 400000
set_option maxRecDepth 100000
end Go.Proofs.YtmeefmoblkiebaaGreat
/- Contracts: valid boards. -/
namespace Go.Proofs.YtmeefmoblkiebaaGreat
open Go.RowKit
set_option linter.unusedVariables false
set_option linter.unusedSimpArgs false
set_option maxHeartbeats 400000
set_option maxRecDepth 100000

/-- Whether a board is valid. -/
def vBd (l : Bd) : Bool := inB l.wd 1 24 && inB l.hg 1 24 && decide (l.ps.length ≤ 200) && l.ps.all (fun p => vPc p && cIn l.wd l.hg p.at_) && decide ((l.ps.map Pc.at_).Nodup)

/-- The first k pieces are as they have to be. -/
def okTo (l : Bd) (k : Nat) : Prop := (l.ps.take k).all (fun p => vPc p && cIn l.wd l.hg p.at_) = true ∧ ((l.ps.take k).map Pc.at_).Nodup
theorem okTo_zero (l : Bd) : okTo l 0 := by simp [okTo]
theorem okTo_succ (l : Bd) (k : Nat) (h : k < l.ps.length) (h0 : okTo l k) (h1 : vPc l.ps[k] = true) (h2 : cIn l.wd l.hg l.ps[k].at_ = true) (h3 : l.ps[k].at_ ∉ (l.ps.take k).map Pc.at_) : okTo l (k + 1) := by
  obtain ⟨a1, a2⟩ := h0
  rw [okTo, List.take_succ_eq_append_getElem h]
  refine ⟨by simp only [List.all_append, a1, List.all_cons, h1, h2, List.all_nil]; rfl, ?_⟩
  rw [List.map_append, List.nodup_append]
  refine ⟨a2, by simp, ?_⟩
  intro a ha b hb
  simp only [List.map_cons, List.map_nil, List.mem_singleton] at hb
  rintro rfl
  exact h3 (hb ▸ ha)
theorem vBd_all (l : Bd) (h0 : okTo l l.ps.length) (h1 : inB l.wd 1 24 = true) (h2 : inB l.hg 1 24 = true) (h3 : l.ps.length ≤ 200) : vBd l = true := by
  obtain ⟨a1, a2⟩ := h0
  rw [List.take_length] at a1 a2
  simp [vBd, h1, h2, h3, a1, a2]
theorem vBd_head (l : Bd) (h : ¬ (inB l.wd 1 24 = true ∧ inB l.hg 1 24 = true ∧ l.ps.length ≤ 200)) : vBd l = false := by
  unfold vBd
  rw [Bool.eq_false_iff]
  intro h2
  simp only [Bool.and_eq_true, decide_eq_true_eq] at h2
  exact h ⟨h2.1.1.1.1, h2.1.1.1.2, h2.1.1.2⟩
theorem vBd_piece (l : Bd) (k : Nat) (h : k < l.ps.length) (h1 : (vPc l.ps[k] && cIn l.wd l.hg l.ps[k].at_) = false) : vBd l = false := by
  unfold vBd
  have : l.ps.all (fun p => vPc p && cIn l.wd l.hg p.at_) = false := by
    rw [Bool.eq_false_iff]
    intro h2
    have := List.all_eq_true.1 h2 l.ps[k] (List.getElem_mem h)
    rw [h1] at this; cases this
  simp [this]
theorem vBd_twice (l : Bd) (k : Nat) (h : k < l.ps.length) (h1 : l.ps[k].at_ ∈ (l.ps.take k).map Pc.at_) : vBd l = false := by
  unfold vBd
  have : ¬ (l.ps.map Pc.at_).Nodup := by
    intro hn
    have e : l.ps.map Pc.at_ = (l.ps.take k).map Pc.at_ ++ (l.ps.drop k).map Pc.at_ := by rw [← List.map_append, List.take_append_drop]
    rw [e, List.nodup_append] at hn
    exact hn.2.2 _ h1 _ (List.mem_map.2 ⟨l.ps[k], by rw [List.drop_eq_getElem_cons h]; exact List.mem_cons_self, rfl⟩) rfl
  simp [this]

theorem zeroBool (w : World) : (zeroValue 4).run Tryz.prog w = .ok (.bool false) w := by kernel_rfl
theorem run_seen {w : World} {m : Nat} {l : List Ce} (hm : MapAt w m (marks l)) (x y : Int) : (Instr.lookup 152 (.map (some m)) (.agg #[.int .i8 x, .int .i8 y]) false).run Tryz.prog w = .ok (.bool (decide ((⟨x, y⟩ : Ce) ∈ l))) w := by
  obtain ⟨h, -⟩ := ceTy
  have := run_lookup_ce h Tryz.underlying152 (.bool false) zeroBool hm ⟨x, y⟩ false
  rw [mget_marks] at this
  exact this

set_option maxRecDepth 100000 in
theorem validBoard_any (wd hg : Int) (a : Option Addr) (cap : Nat) (ps : List Pc) (w : World) (hps : PcsAt w.heap.size w a ps) (hok : (Bd.mk wd hg ps).ok) (hn : ps.length ≤ 10000000) :
    Calls Tryz.prog 55 #[bdv wd hg (.slice a ps.length cap)] w fun e w' => e = .returned (.bool (vBd ⟨wd, hg, ps⟩)) ∧ Below w.heap.size w w' := by
  obtain ⟨⟨d1, d2⟩, ⟨d3, d4⟩, hok3⟩ := hok
  obtain ⟨hcty, -⟩ := ceTy
  by_cases hhd : inB wd 1 24 = true ∧ inB hg 1 24 = true ∧ ps.length ≤ 200
  · obtain ⟨h1, h2, h3⟩ := hhd
    have hmm := @run_makeMap Tryz.prog
    have w1 := wrap_i8 d1 d2
    have w2 := wrap_i8 d3 d4
    go_enter Tryz.func55, Tryz.ntmps55
    go_wp2_with (go_at_call 64; refine (in_any _ _ _ _).mono ?_; rintro e w' ⟨rfl, rfl⟩)
    have hps0 := hps.below (bl_alloc (o := .cells #[.int .i8 wd, .int .i8 hg, .slice a ps.length cap] 27) (Below.refl _ _)) (Nat.le_refl _)
    go_loopw [28] (fun i wr => ∃ k : Nat, k ≤ ps.length ∧ i = .int .i64 k ∧ okTo ⟨wd, hg, ps⟩ k ∧ MapAt wr (w.heap.size + 1) (marks ((ps.take k).map Pc.at_)) ∧ BdAt wr w.heap.size wd hg (.slice a ps.length cap) ∧ w.heap.size + 1 < wr.heap.size ∧ Below w.heap.size w wr) (fun i _ => ps.length - (intOf i).toNat)
    case atStart =>
      refine ⟨0, by omega, rfl, okTo_zero _, ?_, ?_, by simp, (by repeat (first | with_reducible exact Below.refl _ _ | with_reducible assumption | with_reducible apply bl_drewN | with_reducible apply bl_drew | with_reducible apply bl_alloc | (with_reducible refine bl_set ?_ (by first | (simp; done) | (simp; omega)) _) | with_reducible refine bl_trans ?_ (by with_reducible assumption)))⟩
      · have := map_new (w.alloc (.cells #[.int .i8 wd, .int .i8 hg, .slice a ps.length cap] 27))
        simpa [marks] using this
      · refine ⟨?_, ?_, ?_⟩ <;> (rw [cell_alloc _ _ _ _ (by simp)]; rw [cell_of_row _ _ _ _ _ _ (heap_alloc_new w _)]; rfl)
    case round =>
      clear hps0
      obtain ⟨k, hk, rfl, hto, hmap, hbd, hsz, hb⟩ := hrel
      have hbp : BP wr w.heap.size ⟨wd, hg, ps⟩ := ⟨by omega, _, hbd, a, cap, rfl, (hps.below hb (Nat.le_refl _)).mono hb.size⟩
      by_cases hlt : k < ps.length
      · obtain ⟨b, off, rfl, hbl, hat⟩ := pcs_get (hps.below hb (Nat.le_refl _)) hlt
        unfold PcAt at hat
        go_wp2_with (first | (go_at_call 111; refine (validPiece_any ps[k] (hok3 k hlt) _).mono ?_; rintro e w3 ⟨rfl, hb3⟩; obtain ⟨hc3, hf3⟩ := bcell hb3; have hz3 := hb3.size; simp at hz3; have q3 : wr.heap.size < w3.heap.size := by omega) | (go_at_call 112; refine (has_any w.heap.size ⟨wd, hg, ps⟩ ⟨ps[k].x, ps[k].y⟩ _ (hbp.step (by repeat (first | with_reducible exact Below.refl _ _ | with_reducible assumption | with_reducible apply bl_drewN | with_reducible apply bl_drew | with_reducible apply bl_alloc | (with_reducible refine bl_set ?_ (by first | (simp; done) | (simp; omega)) _) | with_reducible refine bl_trans ?_ (by with_reducible assumption))))).mono ?_; rintro e w4 ⟨rfl, hb4⟩; obtain ⟨hc4, hf4⟩ := bcell hb4; have hm4 := map_below (map_below (map_alloc hmap _) hb3 (by simp; omega)) hb4 (by omega); have hrun := run_seen hm4 ps[k].x ps[k].y) | (at_mapUpdate; refine wpList_update_ce _ rfl _ _ _ 152 rfl hcty Tryz.underlying152 _ _ rfl hm4 ⟨ps[k].x, ps[k].y⟩ (.bool true) rfl rfl ?_; intro w5 hm5 hg5 hz5))
        · have hin : (⟨ps[k].x, ps[k].y⟩ : Ce) ∈ (ps.map Pc.at_).take k := by assumption
          go_ret
          rw [← List.map_take] at hin
          exact ⟨by rw [vBd_twice ⟨wd, hg, ps⟩ k hlt hin]; rfl, (by repeat (first | with_reducible exact Below.refl _ _ | with_reducible assumption | with_reducible apply bl_drewN | with_reducible apply bl_drew | with_reducible apply bl_alloc | (with_reducible refine bl_set ?_ (by first | (simp; done) | (simp; omega)) _) | with_reducible refine bl_trans ?_ (by with_reducible assumption)))⟩
        · have hv : vPc ps[k] = true := by assumption
          have hc : cIn wd hg ⟨ps[k].x, ps[k].y⟩ = true := by assumption
          have hin : ¬ (⟨ps[k].x, ps[k].y⟩ : Ce) ∈ (ps.map Pc.at_).take k := by assumption
          rw [← List.map_take] at hin
          rw [mput_marks, if_neg hin] at hm5
          have hz4 := hb4.size
          have hb9 : Below w.heap.size w w5 := bl_grown (by repeat (first | with_reducible exact Below.refl _ _ | with_reducible assumption | with_reducible apply bl_drewN | with_reducible apply bl_drew | with_reducible apply bl_alloc | (with_reducible refine bl_set ?_ (by first | (simp; done) | (simp; omega)) _) | with_reducible refine bl_trans ?_ (by with_reducible assumption))) hg5 (by intro j hj; cases hj; omega)
          have hbd4 : BdAt w4 w.heap.size wd hg (.slice (some ⟨b, off, none⟩) ps.length cap) := by
            have h1 := hbd
            unfold BdAt at h1 ⊢
            have e : ∀ o, w4.cell? ⟨w.heap.size, o, none⟩ = wr.cell? ⟨w.heap.size, o, none⟩ := by
              intro o
              rw [hc4 _ _ (by omega), hc3 _ _ (by simp; omega), cell_alloc _ _ _ _ (by omega)]
            simpa only [e] using h1
          clear hc3 hf3 hc4 hf4 hrun hm4 hbp hmap hat
          go_roundw
          case rel =>
            refine ⟨k + 1, by omega, by go_num, okTo_succ ⟨wd, hg, ps⟩ k hlt hto hv hc hin, ?_, ?_, by omega, hb9⟩
            · rw [List.take_succ_eq_append_getElem hlt, List.map_append]; exact hm5
            · unfold BdAt at hbd4 ⊢
              obtain ⟨e0, e1, e2⟩ := hbd4
              exact ⟨hg5.cell e0 (by simp), hg5.cell e1 (by simp), hg5.cell e2 (by simp)⟩
          case measure => simp [intOf]; omega
        · have hc : ¬ cIn wd hg ⟨ps[k].x, ps[k].y⟩ = true := by assumption
          go_ret
          exact ⟨by rw [vBd_piece ⟨wd, hg, ps⟩ k hlt (by simp only [Bool.and_eq_false_iff]; exact .inr (Bool.eq_false_iff.2 hc))]; rfl, (by repeat (first | with_reducible exact Below.refl _ _ | with_reducible assumption | with_reducible apply bl_drewN | with_reducible apply bl_drew | with_reducible apply bl_alloc | (with_reducible refine bl_set ?_ (by first | (simp; done) | (simp; omega)) _) | with_reducible refine bl_trans ?_ (by with_reducible assumption)))⟩
        · have hc : ¬ vPc ps[k] = true := by assumption
          go_ret
          exact ⟨by rw [vBd_piece ⟨wd, hg, ps⟩ k hlt (by simp only [Bool.and_eq_false_iff]; exact .inl (Bool.eq_false_iff.2 hc))]; rfl, (by repeat (first | with_reducible exact Below.refl _ _ | with_reducible assumption | with_reducible apply bl_drewN | with_reducible apply bl_drew | with_reducible apply bl_alloc | (with_reducible refine bl_set ?_ (by first | (simp; done) | (simp; omega)) _) | with_reducible refine bl_trans ?_ (by with_reducible assumption)))⟩
      · go_wp2
        go_ret
        have hkn : k = ps.length := by omega
        rw [hkn] at hto
        exact ⟨by rw [vBd_all ⟨wd, hg, ps⟩ hto h1 h2 h3]; rfl, (by repeat (first | with_reducible exact Below.refl _ _ | with_reducible assumption | with_reducible apply bl_drewN | with_reducible apply bl_drew | with_reducible apply bl_alloc | (with_reducible refine bl_set ?_ (by first | (simp; done) | (simp; omega)) _) | with_reducible refine bl_trans ?_ (by with_reducible assumption)))⟩
  · have hv : vBd ⟨wd, hg, ps⟩ = false := vBd_head _ hhd
    have HV := Lib.hid hv; clear hv
    have w1 := wrap_i8 d1 d2
    have w2 := wrap_i8 d3 d4
    by_cases h1 : inB wd 1 24 = true
    · by_cases h2 : inB hg 1 24 = true
      · have h3 : 200 < ps.length := by
          by_cases h : ps.length ≤ 200
          · exact absurd ⟨h1, h2, h⟩ hhd
          · omega
        go_enter Tryz.func55, Tryz.ntmps55
        go_wp2_with (go_at_call 64; refine (in_any _ _ _ _).mono ?_; rintro e w' ⟨rfl, rfl⟩)
        go_ret
        exact ⟨by rw [HV.out]; rfl, (by repeat (first | with_reducible exact Below.refl _ _ | with_reducible assumption | with_reducible apply bl_drewN | with_reducible apply bl_drew | with_reducible apply bl_alloc | (with_reducible refine bl_set ?_ (by first | (simp; done) | (simp; omega)) _) | with_reducible refine bl_trans ?_ (by with_reducible assumption)))⟩
      · have h2 : inB hg 1 24 = false := by simpa using h2
        go_enter Tryz.func55, Tryz.ntmps55
        go_wp2_with (go_at_call 64; refine (in_any _ _ _ _).mono ?_; rintro e w' ⟨rfl, rfl⟩)
        go_ret
        exact ⟨by rw [HV.out]; rfl, (by repeat (first | with_reducible exact Below.refl _ _ | with_reducible assumption | with_reducible apply bl_drewN | with_reducible apply bl_drew | with_reducible apply bl_alloc | (with_reducible refine bl_set ?_ (by first | (simp; done) | (simp; omega)) _) | with_reducible refine bl_trans ?_ (by with_reducible assumption)))⟩
    · have h1 : inB wd 1 24 = false := by simpa using h1
      go_enter Tryz.func55, Tryz.ntmps55
      go_wp2_with (go_at_call 64; refine (in_any _ _ _ _).mono ?_; rintro e w' ⟨rfl, rfl⟩)
      go_ret
      exact ⟨by rw [HV.out]; rfl, (by repeat (first | with_reducible exact Below.refl _ _ | with_reducible assumption | with_reducible apply bl_drewN | with_reducible apply bl_drew | with_reducible apply bl_alloc | (with_reducible refine bl_set ?_ (by first | (simp; done) | (simp; omega)) _) | with_reducible refine bl_trans ?_ (by with_reducible assumption)))⟩
theorem PcAt.step {w w' : World} {b off : Nat} {p : Pc} (h : PcAt w b off p) (hb : Below w.heap.size w w') (hl : b < w.heap.size) : PcAt w' b off p := by
  unfold PcAt at *
  simp only [hb.cell (p := ⟨b, _, none⟩) hl]
  exact h
theorem fnd_at (ps : List Pc) (k : Nat) (h : k < ps.length) : (fnd ps[k].at_ ps != (k : Int)) = decide (ps[k].at_ ∈ (ps.take k).map Pc.at_) := by
  rw [Bool.eq_iff_iff]
  simp only [bne_iff_ne, ne_eq, decide_eq_true_eq]
  unfold fnd
  cases hf : ps.findIdx? (fun p => decide (p.at_ = ps[k].at_)) with
  | none =>
    rw [List.findIdx?_eq_none_iff] at hf
    have := hf ps[k] (List.getElem_mem h)
    simp at this
  | some j =>
    rw [List.findIdx?_eq_some_iff_getElem] at hf
    obtain ⟨h1, h2, h3⟩ := hf
    have hjk : j ≤ k := by
      by_cases hlt : j ≤ k
      · exact hlt
      · exact absurd (h3 k (by omega)) (by simp)
    simp only [Option.elim]
    constructor
    · intro hne
      have hlt : j < k := by omega
      have h4 : ps[j].at_ = ps[k].at_ := by simpa using h2
      rw [← h4]
      exact List.mem_map.2 ⟨ps[j], by rw [List.mem_take_iff_getElem]; exact ⟨j, by omega, rfl⟩, rfl⟩
    · intro hm
      obtain ⟨p, hp, he⟩ := List.mem_map.1 hm
      rw [List.mem_take_iff_getElem] at hp
      obtain ⟨i, hi, rfl⟩ := hp
      intro hjk2
      have : j = k := by omega
      subst this
      have := h3 i (by omega)
      simp [he] at this

end Go.Proofs.YtmeefmoblkiebaaGreat
/- Contracts: the reference's valid boards and ways. -/
namespace Go.Proofs.YtmeefmoblkiebaaGreat
open Go.RowKit
set_option maxRecDepth 100000 in
theorem l01Ok_any (b0 : Nat) (l : Bd) (w : World) (h : BP w b0 l) (hok : l.ok) (hn : l.ps.length ≤ 10000000) :
    Calls Tryz.prog 101 #[.pointer (some ⟨b0, 0, none⟩)] w fun e w' => e = .returned (.bool (vBd l)) ∧ Below w.heap.size w w' := by
  have h0 := h
  obtain ⟨hbl, s, hbd, a, cap, rfl, hps⟩ := h
  obtain ⟨wd, hg, ps⟩ := l
  obtain ⟨⟨d1, d2⟩, ⟨d3, d4⟩, hok3⟩ := hok
  have w1 := wrap_i8 d1 d2
  have w2 := wrap_i8 d3 d4
  have hbd0 := hbd
  unfold BdAt at hbd
  simp only at hbd hps hn d1 d2 d3 d4 hok3 w1 w2 ⊢
  by_cases hhd : inB wd 1 24 = true ∧ inB hg 1 24 = true ∧ ps.length ≤ 200
  · obtain ⟨h1, h2, h3⟩ := hhd
    go_enter Tryz.func101, Tryz.ntmps101
    go_wp2_with (go_at_call 79; refine (l00In_any _ _ _ _).mono ?_; rintro e w' ⟨rfl, rfl⟩)
    go_loopw [3] (fun i wr => ∃ k : Nat, k ≤ ps.length ∧ i = .int .i64 k ∧ okTo ⟨wd, hg, ps⟩ k ∧ Below w.heap.size w wr) (fun i _ => ps.length - (intOf i).toNat)
    case atStart => exact ⟨0, by omega, rfl, okTo_zero _, Below.refl _ _⟩
    case round =>
      obtain ⟨k, hk, rfl, hto, hb⟩ := hrel
      obtain ⟨hc, hf⟩ := bcell hb
      have hwz := hb.size
      have q0 : b0 < wr.heap.size := by omega
      by_cases hlt : k < ps.length
      · obtain ⟨b, off, rfl, hbl', hat⟩ := pcs_get hps hlt
        have hq : b < wr.heap.size := by omega
        have HP := Lib.hid (h0.step hb)
        have C1 := fun (u : Ext wr) => l01Piece_any ps[k] (hok3 k hlt) u.w b (off + k * 5) ((hat.step hb hbl').step u.b hq)
        have C2 := fun (u : Ext wr) => l01In_any ⟨ps[k].x, ps[k].y⟩ (hok3 k hlt).1 wd hg u.w (by omega) (by omega) (by omega) (by omega)
        unfold PcAt at hat
        rcases Bool.eq_false_or_eq_true (vPc ps[k]) with hv | hv
        · rcases Bool.eq_false_or_eq_true (cIn wd hg ⟨ps[k].x, ps[k].y⟩) with hcn | hcn
          · rw [hv] at C1
            rw [hcn] at C2
            have H1 := Lib.hid C1; have H2 := Lib.hid C2; clear C1 C2
            have hfa := fnd_at ps k hlt
            have hpa : ps[k].at_ = ⟨ps[k].x, ps[k].y⟩ := rfl
            rw [hpa] at hfa
            by_cases hin : (⟨ps[k].x, ps[k].y⟩ : Ce) ∈ (ps.take k).map Pc.at_
            · have HT := Lib.hid (vBd_twice ⟨wd, hg, ps⟩ k hlt hin)
              simp only [hin, decide_true] at hfa
              clear hin hpa
              go_wp2
              (refine wp_region_ext (by kernel_rfl) (by kernel_rfl) ?_; have hX := @ext_cell; (repeat (go_big_quiet_step (first | (go_at_call 155; exact ext_call (H1.out _)) | (go_at_call 156; exact ext_call (H2.out _)) | (go_at_call 104; exact ext_call (l01Find_any b0 ⟨wd, hg, ps⟩ ⟨ps[k].x, ps[k].y⟩ _ (HP.out.step (Ext.b _)) hn))))); refine wpQuiet_nil ?_; clear hX; intro wx hw'; obtain ⟨⟨wx, hbx⟩, rfl⟩ := hw'; obtain ⟨hcx, hfx⟩ := bcell hbx)
              go_wp2
              go_ret
              exact ⟨by rw [HT.out]; rfl, (by repeat (first | with_reducible exact Below.refl _ _ | with_reducible assumption | with_reducible apply bl_drewN | with_reducible apply bl_drew | with_reducible apply bl_alloc | (with_reducible refine bl_set ?_ (by first | (simp; done) | (simp; omega)) _) | with_reducible refine bl_trans ?_ (by with_reducible assumption)))⟩
            · have HT := Lib.hid (okTo_succ ⟨wd, hg, ps⟩ k hlt hto hv hcn hin)
              simp only [hin, decide_false] at hfa
              clear hin hpa
              go_wp2
              (refine wp_region_ext (by kernel_rfl) (by kernel_rfl) ?_; have hX := @ext_cell; (repeat (go_big_quiet_step (first | (go_at_call 155; exact ext_call (H1.out _)) | (go_at_call 156; exact ext_call (H2.out _)) | (go_at_call 104; exact ext_call (l01Find_any b0 ⟨wd, hg, ps⟩ ⟨ps[k].x, ps[k].y⟩ _ (HP.out.step (Ext.b _)) hn))))); refine wpQuiet_nil ?_; clear hX; intro wx hw'; obtain ⟨⟨wx, hbx⟩, rfl⟩ := hw'; obtain ⟨hcx, hfx⟩ := bcell hbx)
              go_wp2
              go_roundw
              case rel => exact ⟨k + 1, by omega, by go_num, HT.out, (by repeat (first | with_reducible exact Below.refl _ _ | with_reducible assumption | with_reducible apply bl_drewN | with_reducible apply bl_drew | with_reducible apply bl_alloc | (with_reducible refine bl_set ?_ (by first | (simp; done) | (simp; omega)) _) | with_reducible refine bl_trans ?_ (by with_reducible assumption)))⟩
              case measure => simp [intOf]; omega
          · rw [hv] at C1
            rw [hcn] at C2
            have H1 := Lib.hid C1; have H2 := Lib.hid C2; clear C1 C2
            have HT := Lib.hid (vBd_piece ⟨wd, hg, ps⟩ k hlt (by simp only [Bool.and_eq_false_iff]; exact .inr hcn))
            go_wp2
            (refine wp_region_ext (by kernel_rfl) (by kernel_rfl) ?_; have hX := @ext_cell; (repeat (go_big_quiet_step (first | (go_at_call 155; exact ext_call (H1.out _)) | (go_at_call 156; exact ext_call (H2.out _)) | (go_at_call 104; exact ext_call (l01Find_any b0 ⟨wd, hg, ps⟩ ⟨ps[k].x, ps[k].y⟩ _ (HP.out.step (Ext.b _)) hn))))); refine wpQuiet_nil ?_; clear hX; intro wx hw'; obtain ⟨⟨wx, hbx⟩, rfl⟩ := hw'; obtain ⟨hcx, hfx⟩ := bcell hbx)
            go_wp2
            go_ret
            exact ⟨by rw [HT.out]; rfl, (by repeat (first | with_reducible exact Below.refl _ _ | with_reducible assumption | with_reducible apply bl_drewN | with_reducible apply bl_drew | with_reducible apply bl_alloc | (with_reducible refine bl_set ?_ (by first | (simp; done) | (simp; omega)) _) | with_reducible refine bl_trans ?_ (by with_reducible assumption)))⟩
        · rw [hv] at C1
          have H1 := Lib.hid C1; clear C1
          have HT := Lib.hid (vBd_piece ⟨wd, hg, ps⟩ k hlt (by simp only [Bool.and_eq_false_iff]; exact .inl hv))
          go_wp2
          (refine wp_region_ext (by kernel_rfl) (by kernel_rfl) ?_; have hX := @ext_cell; (repeat (go_big_quiet_step (first | (go_at_call 155; exact ext_call (H1.out _)) | (go_at_call 156; exact ext_call (H2.out _)) | (go_at_call 104; exact ext_call (l01Find_any b0 ⟨wd, hg, ps⟩ ⟨ps[k].x, ps[k].y⟩ _ (HP.out.step (Ext.b _)) hn))))); refine wpQuiet_nil ?_; clear hX; intro wx hw'; obtain ⟨⟨wx, hbx⟩, rfl⟩ := hw'; obtain ⟨hcx, hfx⟩ := bcell hbx)
          go_wp2
          go_ret
          exact ⟨by rw [HT.out]; rfl, (by repeat (first | with_reducible exact Below.refl _ _ | with_reducible assumption | with_reducible apply bl_drewN | with_reducible apply bl_drew | with_reducible apply bl_alloc | (with_reducible refine bl_set ?_ (by first | (simp; done) | (simp; omega)) _) | with_reducible refine bl_trans ?_ (by with_reducible assumption)))⟩
      · go_wp2
        go_ret
        have hkn : k = ps.length := by omega
        rw [hkn] at hto
        exact ⟨by rw [vBd_all ⟨wd, hg, ps⟩ hto h1 h2 h3]; rfl, (by repeat (first | with_reducible exact Below.refl _ _ | with_reducible assumption | with_reducible apply bl_drewN | with_reducible apply bl_drew | with_reducible apply bl_alloc | (with_reducible refine bl_set ?_ (by first | (simp; done) | (simp; omega)) _) | with_reducible refine bl_trans ?_ (by with_reducible assumption)))⟩
  · have hv : vBd ⟨wd, hg, ps⟩ = false := vBd_head _ hhd
    have HV := Lib.hid hv; clear hv
    by_cases h1 : inB wd 1 24 = true
    · by_cases h2 : inB hg 1 24 = true
      · have h3 : 200 < ps.length := by
          by_cases h : ps.length ≤ 200
          · exact absurd ⟨h1, h2, h⟩ hhd
          · omega
        go_enter Tryz.func101, Tryz.ntmps101
        go_wp2_with (go_at_call 79; refine (l00In_any _ _ _ _).mono ?_; rintro e w' ⟨rfl, rfl⟩)
        go_ret
        exact ⟨by rw [HV.out]; rfl, (by repeat (first | with_reducible exact Below.refl _ _ | with_reducible assumption | with_reducible apply bl_drewN | with_reducible apply bl_drew | with_reducible apply bl_alloc | (with_reducible refine bl_set ?_ (by first | (simp; done) | (simp; omega)) _) | with_reducible refine bl_trans ?_ (by with_reducible assumption)))⟩
      · have h2 : inB hg 1 24 = false := by simpa using h2
        go_enter Tryz.func101, Tryz.ntmps101
        go_wp2_with (go_at_call 79; refine (l00In_any _ _ _ _).mono ?_; rintro e w' ⟨rfl, rfl⟩)
        go_ret
        exact ⟨by rw [HV.out]; rfl, (by repeat (first | with_reducible exact Below.refl _ _ | with_reducible assumption | with_reducible apply bl_drewN | with_reducible apply bl_drew | with_reducible apply bl_alloc | (with_reducible refine bl_set ?_ (by first | (simp; done) | (simp; omega)) _) | with_reducible refine bl_trans ?_ (by with_reducible assumption)))⟩
    · have h1 : inB wd 1 24 = false := by simpa using h1
      go_enter Tryz.func101, Tryz.ntmps101
      go_wp2_with (go_at_call 79; refine (l00In_any _ _ _ _).mono ?_; rintro e w' ⟨rfl, rfl⟩)
      go_ret
      exact ⟨by rw [HV.out]; rfl, (by repeat (first | with_reducible exact Below.refl _ _ | with_reducible assumption | with_reducible apply bl_drewN | with_reducible apply bl_drew | with_reducible apply bl_alloc | (with_reducible refine bl_set ?_ (by first | (simp; done) | (simp; omega)) _) | with_reducible refine bl_trans ?_ (by with_reducible assumption)))⟩
end Go.Proofs.YtmeefmoblkiebaaGreat
/- Contracts: valid ways. -/
namespace Go.Proofs.YtmeefmoblkiebaaGreat
open Go.RowKit
set_option linter.unusedVariables false
set_option linter.unusedSimpArgs false
set_option maxHeartbeats 400000
set_option maxRecDepth 100000
/-- A cell of the board without a piece. -/
def fr (l : Bd) (c : Ce) : Bool := cIn l.wd l.hg c && decide (fnd c l.ps < 0)
def WyAt (w : World) (b : Nat) (y : Wy) : Prop :=
  w.cell? ⟨b, 0, none⟩ = some (.int .i8 y.fx) ∧ w.cell? ⟨b, 1, none⟩ = some (.int .i8 y.fy) ∧ w.cell? ⟨b, 2, none⟩ = some (.int .i8 y.sd) ∧
  w.cell? ⟨b, 3, none⟩ = some (.int .i8 y.tx) ∧ w.cell? ⟨b, 4, none⟩ = some (.int .i8 y.ty) ∧ w.cell? ⟨b, 5, none⟩ = some (.int .i8 y.out)
theorem WyAt.step {w w' : World} {b : Nat} {y : Wy} (h : WyAt w b y) (hb : Below w.heap.size w w') (hl : b < w.heap.size) : WyAt w' b y := by
  unfold WyAt at *
  simp only [hb.cell (p := ⟨b, _, none⟩) hl]
  exact h
theorem WyAt.new (w : World) (y : Wy) (T : TypeId) : WyAt (w.alloc (.cells #[.int .i8 y.fx, .int .i8 y.fy, .int .i8 y.sd, .int .i8 y.tx, .int .i8 y.ty, .int .i8 y.out] T)) w.heap.size y := by
  have hh := heap_alloc_new w (.cells #[.int .i8 y.fx, .int .i8 y.fy, .int .i8 y.sd, .int .i8 y.tx, .int .i8 y.ty, .int .i8 y.out] T)
  refine ⟨?_, ?_, ?_, ?_, ?_, ?_⟩ <;> (rw [cell_of_row _ _ _ _ _ _ hh]; rfl)

end Go.Proofs.YtmeefmoblkiebaaGreat
/- Rows that are cut short, cleared; one element appended; functions of package slices over cells. -/
namespace Go.Proofs.YtmeefmoblkiebaaGreat
open Go.RowKit
set_option linter.unusedVariables false
set_option linter.unusedSimpArgs false
set_option maxHeartbeats 400000
set_option maxRecDepth 100000

/-- A new block reads as what it was made of. -/
theorem sl_new (w : World) (cs : Array Value) (T : TypeId) : SlAt (w.heap.size + 1) (w.alloc (.cells cs T)) (some ⟨w.heap.size, 0, none⟩) cs.toList := by
  intro j hj
  refine ⟨w.heap.size, 0, rfl, by omega, ?_⟩
  have hh := heap_alloc_new w (.cells cs T)
  rw [Nat.zero_add, cell_of_row _ _ _ _ _ _ hh, ← Array.getElem?_toList, List.getElem?_eq_getElem hj]

/-- The first part of an owned row is owned. -/
theorem own_prefix {w : World} {base : Nat} {e : TypeId} {size g n cap : Nat} {A R : List Value} (h : w.ownsRow base e size (.slice (some ⟨g, 0, none⟩) n cap) n (A ++ R)) {i : Nat} (hA : A.length = i * size) (hi : i ≤ n) :
    w.ownsRow base e size (.slice (some ⟨g, 0, none⟩) i cap) i A := by
  refine ⟨hA, .inr ?_⟩
  rcases h.2 with ⟨h', _⟩ | ⟨g', cap', cur, h', hb, hg, hnc, hcm, hcs, htake⟩
  · simp at h'
  · simp only [Value.slice.injEq, Option.some.injEq, Addr.mk.injEq, and_true, true_and] at h'
    obtain ⟨rfl, rfl⟩ := h'
    refine ⟨g, cap, cur, rfl, hb, hg, by omega, hcm, hcs, ?_⟩
    have : (cur.toList.take (n * size)).take (i * size) = A := by rw [htake, List.take_append_of_le_length (by omega), List.take_of_length_le (by omega)]
    rw [List.take_take, Nat.min_eq_left (Nat.mul_le_mul_right _ hi)] at this
    exact this

theorem setCells_same (b : Nat) : ∀ (us : List Value) (w : World) (o : Nat), w.setCells b o us = setCells w b o us
  | [], _, _ => rfl
  | u :: us, w, o => setCells_same b us _ _

/-- 'clear' of the end of an owned row. -/
theorem own_clear {P : Program} {w : World} {base : Nat} {t e ty : TypeId} {size g n cap i c : Nat} {z : Value} {A R : List Value} (ht : P.underlying t = some (.slice e)) (hv : ∀ w, (zeroValue e).run P w = .ok z w) (hz : z.cells.size = size)
    (h1 : ∀ u ∈ z.cells.toList, u.oneCell' = true) (h : w.ownsRow base e size (.slice (some ⟨g, 0, none⟩) n cap) n (A ++ R)) (hA : A.length = i * size) (hi : i ≤ n) (hs : 0 < size) :
    ∃ w', (Builtin.clear_ #[t] ty #[.slice (some ⟨g, i * size, none⟩) (n - i) c]).run P w = .ok (.tuple #[]) w' ∧ w'.ownsRow base e size (.slice (some ⟨g, 0, none⟩) i cap) i A ∧ w.grownBy w' (some g) := by
  by_cases hn : i = n
  · subst hn
    refine ⟨w, ?_, own_prefix h hA (Nat.le_refl _), World.grownBy.refl _ _⟩
    simp [Builtin.clear_, run_underlying ht]
  · obtain ⟨m, hm⟩ : ∃ m, n - i = m + 1 := ⟨n - i - 1, by omega⟩
    have hlen : (Builtin.zeroCells z.cells (n - i)).toList.length = (n - i) * size := by rw [Array.length_toList, size_zeroCells, hz]
    have hle : i * size + (n - i) * size = n * size := by rw [← Nat.add_mul]; congr 1; omega
    have hst := run_storeCells_cells (P := P) g (i * size) (Builtin.zeroCells z.cells (n - i)).toList 0 w
      (by intro j hj; rw [hlen] at hj; obtain ⟨⟨v, hv⟩, -⟩ := own_cell h (j := i * size + 0 + j) (by omega); rw [hv]; rfl)
      (by intro j hj; rw [hlen] at hj; obtain ⟨-, hf⟩ := own_cell h (j := i * size + 0 + j) (by omega); exact hf)
      (by
        intro u hu
        apply h1
        simp only [Builtin.zeroCells, Array.toList_map, List.mem_map] at hu
        obtain ⟨k, hk, rfl⟩ := hu
        have hlt : k % z.cells.size < z.cells.size := Nat.mod_lt _ (by omega)
        rw [getElem!_pos z.cells _ hlt]
        exact Array.getElem_mem_toList hlt)
    rw [Nat.add_zero, setCells_same] at hst
    have hRl : R.length = (n - i) * size := by have := h.1; rw [List.length_append] at this; omega
    have hown := own_setCells (Builtin.zeroCells z.cells (n - i)).toList h hA (by rw [hlen, hRl]; exact Nat.le_refl _)
    rw [List.append_assoc] at hown
    refine ⟨_, ?_, own_prefix hown hA hi, grown_setCells g _ w (i * size)⟩
    rw [hm] at hst ⊢
    simp [Builtin.clear_, run_underlying ht, hv, hst]
end Go.Proofs.YtmeefmoblkiebaaGreat
/- Contracts: from which sides a piece falls, and what it hits: the program's. -/
namespace Go.Proofs.YtmeefmoblkiebaaGreat
open Go.RowKit
set_option linter.unusedVariables false
set_option linter.unusedSimpArgs false
set_option maxHeartbeats 400000
set_option maxRecDepth 100000

theorem opposite_any (s : Int) (w : World) (h1 : 0 ≤ s) (h2 : s ≤ 3) :
    Calls Tryz.prog 154 #[.int .i64 s] w fun e w' => e = .returned (.int .i64 ((s + 2) % 4)) ∧ w = w' := by
  go_enter Tryz.func154, Tryz.ntmps154
  go_wp2
  go_ret
  exact ⟨rfl, rfl⟩
theorem and_fin : ∀ x : Fin 16, ∀ s : Fin 4, (bits .and .u8 (((x : Nat) : Int) / 2 ^ (s : Nat)) 1 == 1) = decide (((x : Nat) : Int) / 2 ^ (s : Nat) % 2 = 1) := by decide +kernel
theorem or_fin : ∀ x : Fin 16, ∀ s : Fin 4, 0 ≤ bits .or .u8 ((x : Nat) : Int) (2 ^ (s : Nat)) ∧ bits .or .u8 ((x : Nat) : Int) (2 ^ (s : Nat)) ≤ 15 := by decide +kernel
theorem and_eq (x s : Int) (h1 : 0 ≤ s) (h2 : s ≤ 3) (h3 : 0 ≤ x) (h4 : x ≤ 15) : (bits .and .u8 (x / 2 ^ s.toNat) 1 == 1) = decide (x / 2 ^ s.toNat % 2 = 1) := by
  have := and_fin ⟨x.toNat, by omega⟩ ⟨s.toNat, by omega⟩
  simpa [Int.toNat_of_nonneg h3] using this
theorem or_bd (x s : Int) (h1 : 0 ≤ s) (h2 : s ≤ 3) (h3 : 0 ≤ x) (h4 : x ≤ 15) : 0 ≤ bits .or .u8 x (2 ^ s.toNat) ∧ bits .or .u8 x (2 ^ s.toNat) ≤ 15 := by
  have := or_fin ⟨x.toNat, by omega⟩ ⟨s.toNat, by omega⟩
  simpa [Int.toNat_of_nonneg h3] using this
/-- The bits of sides. -/
def orL (xs : List Int) : Int := xs.foldl (fun n x => bits .or .u8 n (2 ^ x.toNat)) 0
theorem orL_snoc (xs : List Int) (x : Int) : orL (xs ++ [x]) = bits .or .u8 (orL xs) (2 ^ x.toNat) := by simp [orL]
theorem hasSide_any (x s : Int) (w : World) (h1 : 0 ≤ s) (h2 : s ≤ 3) (h3 : 0 ≤ x) (h4 : x ≤ 15) :
    Calls Tryz.prog 153 #[.int .u8 x, .int .i64 s] w fun e w' => e = .returned (.bool (decide (x / 2 ^ s.toNat % 2 = 1))) ∧ w = w' := by
  have H := Lib.hid (and_eq x s h1 h2 h3 h4)
  go_enter Tryz.func153, Tryz.ntmps153
  go_wp2
  go_ret
  exact ⟨by rw [← H.out]; rfl, rfl⟩
theorem sidesOf_any {B : Nat} (a : Option Addr) (cap : Nat) (xs : List Int) (w : World) (h : SlAt B w a (flat (fun n => [Value.int .i64 n]) xs)) (hx : ∀ k (h : k < xs.length), 0 ≤ xs[k] ∧ xs[k] ≤ 3) (hn : xs.length ≤ 10) :
    Calls Tryz.prog 144 #[.slice a xs.length cap] w fun e w' => e = .returned (.int .u8 (orL xs)) ∧ w = w' := by
  go_enter Tryz.func144, Tryz.ntmps144
  go_wp2
  go_loopw [3, 8] (fun o i wr => ∃ j : Nat, ∃ n : Int, j ≤ xs.length ∧ i = .int .i64 j ∧ o = .int .u8 n ∧ n = orL (xs.take j) ∧ 0 ≤ n ∧ n ≤ 15 ∧ w = wr) (fun _ i _ => xs.length - (intOf i).toNat)
  case atStart => exact ⟨0, 0, by omega, rfl, rfl, rfl, by omega, by omega, rfl⟩
  case round =>
    obtain ⟨j, n, hj, rfl, rfl, hn0, n1, n2, rfl⟩ := hrel
    have HN := Lib.hid hn0; clear hn0
    by_cases hlt : j < xs.length
    · obtain ⟨b, off, rfl, hbl, hat⟩ := SlAt.get (f := fun n => [Value.int .i64 n]) (s := 1) (fun _ => rfl) (by omega) h hlt
      have hat := hat 0 _ rfl
      simp only [Nat.mul_one, Nat.add_zero] at hat
      obtain ⟨x1, x2⟩ := hx j hlt
      obtain ⟨o1, o2⟩ := or_bd n xs[j] x1 x2 n1 n2
      obtain ⟨p, hp, u3, u4⟩ := pow_bd xs[j] x1 x2
      have hs : orL (xs.take (j + 1)) = bits .or .u8 n p := by rw [List.take_succ_eq_append_getElem hlt, orL_snoc, ← HN.out, hp]
      rw [hp] at o1 o2
      have HS := Lib.hid hs; clear hs
      have O1 := Lib.hid o1; clear o1
      have O2 := Lib.hid o2; clear o2
      go_wp2
      exact ⟨⟨j + 1, _, by omega, by go_num, rfl, HS.out.symm, O1.out, O2.out, by trivial⟩, by simp [intOf]; omega⟩
    · go_wp2
      go_ret
      have := HN.out
      rw [List.take_of_length_le (by omega)] at this
      exact ⟨by rw [← this]; rfl, by trivial⟩
def UntP (k r : Int) (w : World) (e : Ending) (w' : World) : Prop :=
  (∃ v : Int, 0 ≤ v ∧ v ≤ 15 ∧ (0 ≤ tbl k r → v = tbl k r) ∧ e = .returned (.tuple #[.bool (decide (0 ≤ tbl k r)), .int .u8 v])) ∧ Below w.heap.size w w'
theorem one_side (s : Int) (h1 : 0 ≤ s) (h2 : s ≤ 3) : ∀ k (h : k < [s].length), 0 ≤ [s][k] ∧ [s][k] ≤ 3 := by
  intro k hk
  have : k = 0 := by simpa using hk
  subst this; exact ⟨h1, h2⟩
theorem three_sides : ∀ k (h : k < [(0 : Int), 2, 3].length), 0 ≤ [(0 : Int), 2, 3][k] ∧ [(0 : Int), 2, 3][k] ≤ 3 := by decide
set_option maxHeartbeats 2000000 in
theorem unturned0 (r : Int) (h3 : 0 ≤ r) (h4 : r ≤ 3) (w : World) : Calls Tryz.prog 177 #[.int .i8 0, .int .i64 r] w (UntP 0 r w) := by
  have hr : r = 0 ∨ r = 1 ∨ r = 2 ∨ r = 3 := by omega
  rcases hr with rfl | rfl | rfl | rfl
  all_goals
    go_enter Tryz.func177, Tryz.ntmps177
    go_wp2_with (first | (go_at_call 154; refine (opposite_any _ _ (by omega) (by omega)).mono ?_; rintro e w' ⟨rfl, rfl⟩) | (go_at_call 144; refine (sidesOf_any _ 1 [_] _ (sl_new _ #[.int .i64 _] _) (one_side _ (by omega) (by omega)) (by decide)).mono ?_; rintro e w' ⟨rfl, rfl⟩))
    go_ret2
    exact ⟨⟨_, by decide, by decide, by decide, rfl⟩, (by repeat (first | with_reducible exact Below.refl _ _ | with_reducible assumption | with_reducible apply bl_drewN | with_reducible apply bl_drew | with_reducible apply bl_alloc | (with_reducible refine bl_set ?_ (by first | (simp; done) | (simp; omega)) _) | with_reducible refine bl_trans ?_ (by with_reducible assumption)))⟩
set_option maxHeartbeats 2000000 in
theorem unturned1 (r : Int) (h3 : 0 ≤ r) (h4 : r ≤ 3) (w : World) : Calls Tryz.prog 177 #[.int .i8 1, .int .i64 r] w (UntP 1 r w) := by
  have hr : r = 0 ∨ r = 1 ∨ r = 2 ∨ r = 3 := by omega
  rcases hr with rfl | rfl | rfl | rfl
  all_goals
    go_enter Tryz.func177, Tryz.ntmps177
    go_wp2_with (go_at_call 144; refine (sidesOf_any _ 1 [_] _ (sl_new _ #[.int .i64 _] _) (one_side _ (by omega) (by omega)) (by decide)).mono ?_; rintro e w' ⟨rfl, rfl⟩)
    go_ret2
    exact ⟨⟨_, by decide, by decide, by decide, rfl⟩, (by repeat (first | with_reducible exact Below.refl _ _ | with_reducible assumption | with_reducible apply bl_drewN | with_reducible apply bl_drew | with_reducible apply bl_alloc | (with_reducible refine bl_set ?_ (by first | (simp; done) | (simp; omega)) _) | with_reducible refine bl_trans ?_ (by with_reducible assumption)))⟩
theorem sl_one (w : World) (n : Int) (T : TypeId) : SlAt (w.heap.size + 1) (w.alloc (.cells #[.int .i64 n] T)) (some ⟨w.heap.size, 0, none⟩) (flat (fun n => [Value.int .i64 n]) [n]) := by simpa [flat] using sl_new w #[.int .i64 n] T
theorem sl_three (w : World) (T : TypeId) : SlAt (w.heap.size + 1) (w.alloc (.cells #[.int .i64 0, .int .i64 2, .int .i64 3] T)) (some ⟨w.heap.size, 0, none⟩) (flat (fun n => [Value.int .i64 n]) [0, 2, 3]) := by simpa [flat] using sl_new w #[.int .i64 0, .int .i64 2, .int .i64 3] T
theorem sides3_any (w : World) (T : TypeId) : Calls Tryz.prog 144 #[.slice (some ⟨w.heap.size, 0, none⟩) 3 3] (w.alloc (.cells #[.int .i64 0, .int .i64 2, .int .i64 3] T)) fun e w' => e = .returned (.int .u8 13) ∧ (w.alloc (.cells #[.int .i64 0, .int .i64 2, .int .i64 3] T)) = w' := by
  have := sidesOf_any _ 3 [0, 2, 3] _ (sl_three w T) three_sides (by decide)
  rwa [show orL [0, 2, 3] = 13 from by decide +kernel] at this
theorem sides1_any (w : World) (n : Int) (T : TypeId) (h1 : 0 ≤ n) (h2 : n ≤ 3) : Calls Tryz.prog 144 #[.slice (some ⟨w.heap.size, 0, none⟩) 1 1] (w.alloc (.cells #[.int .i64 n] T)) fun e w' => e = .returned (.int .u8 (orL [n])) ∧ (w.alloc (.cells #[.int .i64 n] T)) = w' :=
  sidesOf_any _ 1 [n] _ (sl_one w n T) (one_side n h1 h2) (by simp)
set_option maxHeartbeats 2000000 in
theorem unturned3 (r : Int) (h3 : 0 ≤ r) (h4 : r ≤ 3) (w : World) : Calls Tryz.prog 177 #[.int .i8 3, .int .i64 r] w (UntP 3 r w) := by
  have hr : r = 0 ∨ r = 1 ∨ r = 2 ∨ r = 3 := by omega
  rcases hr with rfl | rfl | rfl | rfl
  all_goals
    go_enter Tryz.func177, Tryz.ntmps177
    go_wp2_with (go_at_call 144; refine (sidesOf_any _ 1 [_] _ (sl_new _ #[.int .i64 _] _) (one_side _ (by omega) (by omega)) (by decide)).mono ?_; rintro e w' ⟨rfl, rfl⟩)
    go_ret2
    exact ⟨⟨_, by decide, by decide, by decide, rfl⟩, (by repeat (first | with_reducible exact Below.refl _ _ | with_reducible assumption | with_reducible apply bl_drewN | with_reducible apply bl_drew | with_reducible apply bl_alloc | (with_reducible refine bl_set ?_ (by first | (simp; done) | (simp; omega)) _) | with_reducible refine bl_trans ?_ (by with_reducible assumption)))⟩
set_option maxHeartbeats 2000000 in
theorem unturned4 (r : Int) (h3 : 0 ≤ r) (h4 : r ≤ 3) (w : World) : Calls Tryz.prog 177 #[.int .i8 4, .int .i64 r] w (UntP 4 r w) := by
  have hr : r = 0 ∨ r = 1 ∨ r = 2 ∨ r = 3 := by omega
  rcases hr with rfl | rfl | rfl | rfl
  all_goals
    go_enter Tryz.func177, Tryz.ntmps177
    go_wp2_with (first | (go_at_call 154; refine (opposite_any _ _ (by omega) (by omega)).mono ?_; rintro e w' ⟨rfl, rfl⟩) | (go_at_call 144; refine (sidesOf_any _ 1 [_] _ (sl_new _ #[.int .i64 _] _) (one_side _ (by omega) (by omega)) (by decide)).mono ?_; rintro e w' ⟨rfl, rfl⟩))
    go_ret2
    exact ⟨⟨_, by decide, by decide, by decide, rfl⟩, (by repeat (first | with_reducible exact Below.refl _ _ | with_reducible assumption | with_reducible apply bl_drewN | with_reducible apply bl_drew | with_reducible apply bl_alloc | (with_reducible refine bl_set ?_ (by first | (simp; done) | (simp; omega)) _) | with_reducible refine bl_trans ?_ (by with_reducible assumption)))⟩
set_option maxHeartbeats 2000000 in
theorem unturned5 (r : Int) (h3 : 0 ≤ r) (h4 : r ≤ 3) (w : World) : Calls Tryz.prog 177 #[.int .i8 5, .int .i64 r] w (UntP 5 r w) := by
  have hr : r = 0 ∨ r = 1 ∨ r = 2 ∨ r = 3 := by omega
  rcases hr with rfl | rfl | rfl | rfl
  all_goals
    go_enter Tryz.func177, Tryz.ntmps177
    go_wp2_with (first | (go_at_call 154; refine (opposite_any _ _ (by omega) (by omega)).mono ?_; rintro e w' ⟨rfl, rfl⟩) | (go_at_call 144; refine (sidesOf_any _ 1 [_] _ (sl_new _ #[.int .i64 _] _) (one_side _ (by omega) (by omega)) (by decide)).mono ?_; rintro e w' ⟨rfl, rfl⟩))
    go_ret2
    exact ⟨⟨_, by decide, by decide, by decide, rfl⟩, (by repeat (first | with_reducible exact Below.refl _ _ | with_reducible assumption | with_reducible apply bl_drewN | with_reducible apply bl_drew | with_reducible apply bl_alloc | (with_reducible refine bl_set ?_ (by first | (simp; done) | (simp; omega)) _) | with_reducible refine bl_trans ?_ (by with_reducible assumption)))⟩
end Go.Proofs.YtmeefmoblkiebaaGreat
/- Contracts: what a piece hits: forks, and all kinds. -/
namespace Go.Proofs.YtmeefmoblkiebaaGreat
open Go.RowKit
set_option linter.unusedVariables false
set_option linter.unusedSimpArgs false
set_option maxHeartbeats 400000
set_option maxRecDepth 100000
theorem unturned20 (w : World) : Calls Tryz.prog 177 #[.int .i8 2, .int .i64 0] w (UntP 2 0 w) := by
  go_enter Tryz.func177, Tryz.ntmps177
  go_wp2_with fail
  refine (sides3_any _ _).mono ?_
  rintro e w1 ⟨rfl, hw⟩
  have hb : Below w.heap.size w w1 := hw ▸ bl_alloc (Below.refl _ _)
  clear hw
  go_wp2_with fail
  refine (sides1_any _ 0 _ (by decide) (by decide)).mono ?_
  rintro e w' ⟨rfl, rfl⟩
  rw [show orL [0] = 1 from by decide +kernel]
  go_wp2
  go_ret2
  refine ⟨⟨_, ?_, ?_, ?_, rfl⟩, (by repeat (first | with_reducible exact Below.refl _ _ | with_reducible assumption | with_reducible apply bl_drewN | with_reducible apply bl_drew | with_reducible apply bl_alloc | (with_reducible refine bl_set ?_ (by first | (simp; done) | (simp; omega)) _) | with_reducible refine bl_trans ?_ (by with_reducible assumption)))⟩ <;> decide +kernel
theorem unturned21 (w : World) : Calls Tryz.prog 177 #[.int .i8 2, .int .i64 1] w (UntP 2 1 w) := by
  go_enter Tryz.func177, Tryz.ntmps177
  go_wp2_with fail
  refine (sides3_any _ _).mono ?_
  rintro e w1 ⟨rfl, hw⟩
  have hb : Below w.heap.size w w1 := hw ▸ bl_alloc (Below.refl _ _)
  clear hw
  go_wp2_with fail
  refine (sides1_any _ 1 _ (by decide) (by decide)).mono ?_
  rintro e w' ⟨rfl, rfl⟩
  rw [show orL [1] = 2 from by decide +kernel]
  go_wp2
  go_ret2
  refine ⟨⟨_, ?_, ?_, ?_, rfl⟩, (by repeat (first | with_reducible exact Below.refl _ _ | with_reducible assumption | with_reducible apply bl_drewN | with_reducible apply bl_drew | with_reducible apply bl_alloc | (with_reducible refine bl_set ?_ (by first | (simp; done) | (simp; omega)) _) | with_reducible refine bl_trans ?_ (by with_reducible assumption)))⟩ <;> decide +kernel
theorem unturned22 (w : World) : Calls Tryz.prog 177 #[.int .i8 2, .int .i64 2] w (UntP 2 2 w) := by
  go_enter Tryz.func177, Tryz.ntmps177
  go_wp2_with fail
  refine (sides3_any _ _).mono ?_
  rintro e w1 ⟨rfl, hw⟩
  have hb : Below w.heap.size w w1 := hw ▸ bl_alloc (Below.refl _ _)
  clear hw
  go_wp2_with fail
  refine (sides1_any _ 2 _ (by decide) (by decide)).mono ?_
  rintro e w' ⟨rfl, rfl⟩
  rw [show orL [2] = 4 from by decide +kernel]
  go_wp2
  go_ret2
  refine ⟨⟨_, ?_, ?_, ?_, rfl⟩, (by repeat (first | with_reducible exact Below.refl _ _ | with_reducible assumption | with_reducible apply bl_drewN | with_reducible apply bl_drew | with_reducible apply bl_alloc | (with_reducible refine bl_set ?_ (by first | (simp; done) | (simp; omega)) _) | with_reducible refine bl_trans ?_ (by with_reducible assumption)))⟩ <;> decide +kernel
theorem unturned23 (w : World) : Calls Tryz.prog 177 #[.int .i8 2, .int .i64 3] w (UntP 2 3 w) := by
  go_enter Tryz.func177, Tryz.ntmps177
  go_wp2_with fail
  refine (sides3_any _ _).mono ?_
  rintro e w1 ⟨rfl, hw⟩
  have hb : Below w.heap.size w w1 := hw ▸ bl_alloc (Below.refl _ _)
  clear hw
  go_wp2_with fail
  refine (sides1_any _ 3 _ (by decide) (by decide)).mono ?_
  rintro e w' ⟨rfl, rfl⟩
  rw [show orL [3] = 8 from by decide +kernel]
  go_wp2
  go_ret2
  refine ⟨⟨_, ?_, ?_, ?_, rfl⟩, (by repeat (first | with_reducible exact Below.refl _ _ | with_reducible assumption | with_reducible apply bl_drewN | with_reducible apply bl_drew | with_reducible apply bl_alloc | (with_reducible refine bl_set ?_ (by first | (simp; done) | (simp; omega)) _) | with_reducible refine bl_trans ?_ (by with_reducible assumption)))⟩ <;> decide +kernel
theorem unturned2 (r : Int) (h3 : 0 ≤ r) (h4 : r ≤ 3) (w : World) : Calls Tryz.prog 177 #[.int .i8 2, .int .i64 r] w (UntP 2 r w) := by
  have hr : r = 0 ∨ r = 1 ∨ r = 2 ∨ r = 3 := by omega
  rcases hr with rfl | rfl | rfl | rfl
  · exact unturned20 w
  · exact unturned21 w
  · exact unturned22 w
  · exact unturned23 w
theorem unturned_any (k r : Int) (h1 : 0 ≤ k) (h2 : k ≤ 5) (h3 : 0 ≤ r) (h4 : r ≤ 3) (w : World) : Calls Tryz.prog 177 #[.int .i8 k, .int .i64 r] w (UntP k r w) := by
  have hk : k = 0 ∨ k = 1 ∨ k = 2 ∨ k = 3 ∨ k = 4 ∨ k = 5 := by omega
  rcases hk with rfl | rfl | rfl | rfl | rfl | rfl
  · exact unturned0 r h3 h4 w
  · exact unturned1 r h3 h4 w
  · exact unturned2 r h3 h4 w
  · exact unturned3 r h3 h4 w
  · exact unturned4 r h3 h4 w
  · exact unturned5 r h3 h4 w
end Go.Proofs.YtmeefmoblkiebaaGreat
/- Contracts: (Piece).falls. -/
namespace Go.Proofs.YtmeefmoblkiebaaGreat
open Go.RowKit
set_option linter.unusedVariables false
set_option linter.unusedSimpArgs false
set_option maxHeartbeats 400000
set_option maxRecDepth 100000
/-- The bits of the sides of 'v' below j, turned, as the program gathers them. -/
def osum (v t : Int) : Nat → Int
  | 0 => 0
  | j + 1 => if v / 2 ^ j % 2 = 1 then bits .or .u8 (osum v t j) (orL [((j : Int) + t) % 4]) else osum v t j
theorem osum_succ (v t : Int) (j : Nat) : osum v t (j + 1) = if v / 2 ^ j % 2 = 1 then bits .or .u8 (osum v t j) (orL [((j : Int) + t) % 4]) else osum v t j := rfl
theorem osum_fin : ∀ v : Fin 16, ∀ t : Fin 4, osum ((v : Nat) : Int) ((t : Nat) : Int) 4 = hsum ((v : Nat) : Int) ((t : Nat) : Int) 4 := by decide +kernel
theorem osum_eq (v t : Int) (h1 : 0 ≤ v) (h2 : v ≤ 15) (h3 : 0 ≤ t) (h4 : t ≤ 3) : osum v t 4 = hsum v t 4 := by
  have := osum_fin ⟨v.toNat, by omega⟩ ⟨t.toNat, by omega⟩
  simpa [Int.toNat_of_nonneg h1, Int.toNat_of_nonneg h3] using this
theorem falls_any (x y k t d s : Int) (h1 : 0 ≤ k) (h2 : k ≤ 5) (h3 : 0 ≤ t) (h4 : t ≤ 3) (h5 : 0 ≤ s) (h6 : s ≤ 3) (w : World) :
    Calls Tryz.prog 143 #[.agg #[.int .i8 x, .int .i8 y, .int .i8 k, .int .i8 t, .int .i8 d], .int .i64 s] w fun e w' => e = .returned (.tuple #[.bool (decide (0 ≤ hitsV k t s)), .int .u8 (max (hitsV k t s) 0)]) ∧ Below w.heap.size w w' := by
  have w3 := wrap_i8 (n := t) (by omega) (by omega)
  have hr1 : 0 ≤ (s - t) % 4 := by omega
  have hr2 : (s - t) % 4 ≤ 3 := by omega
  have hre : (s + 4 - t) % 4 = (s - t) % 4 := by omega
  have V : hitsV k t s = (if tbl k ((s - t) % 4) < 0 then -1 else hsum (tbl k ((s - t) % 4)) t 4) := by unfold hitsV; rw [hre]
  have HU := Lib.hid (fun w' => unturned_any k ((s - t) % 4) h1 h2 hr1 hr2 w')
  clear hre
  rcases dec_cases (0 ≤ tbl k ((s - t) % 4)) with ⟨g, g'⟩ | ⟨g, g'⟩
  · have V2 := Lib.hid (V.trans (if_neg (by omega)))
    have G := Lib.hid g'
    clear V g'
    go_enter Tryz.func143, Tryz.ntmps143
    go_wp2_with fail
    refine (HU.out _).mono ?_
    rintro e w1 ⟨⟨v, v1, v2, v3, rfl⟩, hb⟩
    have hv := v3 G.out
    rw [g]
    have HV := Lib.hid hv
    clear hv v3
    go_wp2
    go_loopw [9, 27] (fun o i wr => ∃ j : Nat, ∃ n : Int, j ≤ 4 ∧ i = .int .i64 j ∧ o = .int .u8 n ∧ n = osum v t j ∧ Below w.heap.size w wr) (fun _ i _ => 4 - (intOf i).toNat)
    case atStart => exact ⟨0, 0, by omega, rfl, rfl, rfl, (by repeat (first | with_reducible exact Below.refl _ _ | with_reducible assumption | with_reducible apply bl_drewN | with_reducible apply bl_drew | with_reducible apply bl_alloc | (with_reducible refine bl_set ?_ (by first | (simp; done) | (simp; omega)) _) | with_reducible refine bl_trans ?_ (by with_reducible assumption)))⟩
    case round =>
      clear hb
      obtain ⟨j, n, hj, rfl, rfl, hn0, hb⟩ := hrel
      have HN := Lib.hid hn0; clear hn0
      by_cases hlt : j < 4
      · have H1 := Lib.hid (hasSide_any v j wr (by omega) (by omega) v1 v2)
        have HS := Lib.hid (osum_succ v t j)
        rcases dec_cases (v / 2 ^ j % 2 = 1) with ⟨q, q'⟩ | ⟨q, q'⟩
        · go_wp2_with fail
          refine H1.out.mono ?_
          rintro e w2 ⟨rfl, rfl⟩
          simp only [Int.toNat_natCast, q]
          go_wp2_with fail
          refine (sides1_any wr (((j : Int) + t) % 4) _ (by omega) (by omega)).mono ?_
          rintro e w2 ⟨rfl, hw⟩
          have hb2 : Below w.heap.size w w2 := hw ▸ bl_alloc hb
          clear hw
          have HS' := HS.out
          rw [if_pos q', ← HN.out] at HS'
          have HT := Lib.hid HS'; clear HS'
          go_wp2
          exact ⟨⟨j + 1, _, by omega, by go_num, rfl, HT.out.symm, hb2⟩, by simp [intOf]; omega⟩
        · go_wp2_with fail
          refine H1.out.mono ?_
          rintro e w2 ⟨rfl, rfl⟩
          simp only [Int.toNat_natCast, q]
          have HS' := HS.out
          rw [if_neg q', ← HN.out] at HS'
          have HT := Lib.hid HS'; clear HS'
          go_wp2
          exact ⟨⟨j + 1, _, by omega, by go_num, rfl, HT.out.symm, hb⟩, by simp [intOf]; omega⟩
      · go_wp2
        go_ret2
        have hj4 : j = 4 := by omega
        have e1 : n = hitsV k t s := by rw [HN.out, hj4, osum_eq v t v1 v2 h3 h4, HV.out, V2.out]
        have e2 : 0 ≤ hitsV k t s := by rw [V2.out]; exact (hsum_bd _ _ 4 (by omega)).1
        refine ⟨?_, hb⟩
        rw [show max (hitsV k t s) 0 = n by omega, show decide (0 ≤ hitsV k t s) = true by simpa using e2]
        rfl
  · have V2 := Lib.hid (V.trans (if_pos (by omega)))
    clear V g'
    go_enter Tryz.func143, Tryz.ntmps143
    go_wp2_with fail
    refine (HU.out _).mono ?_
    rintro e w1 ⟨⟨v, v1, v2, v3, rfl⟩, hb⟩
    rw [g]
    clear v3
    go_wp2
    go_ret2
    exact ⟨by rw [V2.out]; rfl, (by repeat (first | with_reducible exact Below.refl _ _ | with_reducible assumption | with_reducible apply bl_drewN | with_reducible apply bl_drew | with_reducible apply bl_alloc | (with_reducible refine bl_set ?_ (by first | (simp; done) | (simp; omega)) _) | with_reducible refine bl_trans ?_ (by with_reducible assumption)))⟩
end Go.Proofs.YtmeefmoblkiebaaGreat
/- Contracts: the cell on a side. -/
namespace Go.Proofs.YtmeefmoblkiebaaGreat
open Go.RowKit
set_option linter.unusedVariables false
set_option linter.unusedSimpArgs false
set_option maxHeartbeats 400000
set_option maxRecDepth 100000
def nxt (c : Ce) (s : Int) : Ce := if s = 0 then ⟨c.x, w8 (c.y - 1)⟩ else if s = 1 then ⟨w8 (c.x + 1), c.y⟩ else if s = 2 then ⟨c.x, w8 (c.y + 1)⟩ else ⟨w8 (c.x - 1), c.y⟩
theorem l01Next_any (c : Ce) (s : Int) (h5 : 0 ≤ s) (h6 : s ≤ 3) (w : World) :
    Calls Tryz.prog 159 #[c.val, .int .i64 s] w fun e w' => e = .returned (nxt c s).val ∧ Below w.heap.size w w' := by
  have hs : s = 0 ∨ s = 1 ∨ s = 2 ∨ s = 3 := by omega
  rcases hs with rfl | rfl | rfl | rfl
  all_goals
    go_enter Tryz.func159, Tryz.ntmps159
    go_wp2
    exact bodyPost_ret (v := (nxt c _).val) (by simp [results, Tryz.results159, go_sem, nxt]) rfl ⟨rfl, (by repeat (first | with_reducible exact Below.refl _ _ | with_reducible assumption | with_reducible apply bl_drewN | with_reducible apply bl_drew | with_reducible apply bl_alloc | (with_reducible refine bl_set ?_ (by first | (simp; done) | (simp; omega)) _) | with_reducible refine bl_trans ?_ (by with_reducible assumption)))⟩
theorem next_any (c : Ce) (hc : c.ok) (s : Int) (h5 : 0 ≤ s) (h6 : s ≤ 3) (w : World) :
    Calls Tryz.prog 145 #[c.val, .int .i64 s] w fun e w' => e = .returned (nxt c s).val ∧ Below w.heap.size w w' := by
  obtain ⟨⟨x1, x2⟩, ⟨y1, y2⟩⟩ := hc
  have hs : s = 0 ∨ s = 1 ∨ s = 2 ∨ s = 3 := by omega
  have i0 : ∀ w, (Instr.index 227 (.agg #[.int .i8 0, .int .i8 (-1), .int .i8 1, .int .i8 0, .int .i8 0, .int .i8 1, .int .i8 (-1), .int .i8 0]) (.int .i64 0)).run Tryz.prog w = .ok (.agg #[.int .i8 0, .int .i8 (-1)]) w := fun _ => by kernel_rfl
  have i1 : ∀ w, (Instr.index 227 (.agg #[.int .i8 0, .int .i8 (-1), .int .i8 1, .int .i8 0, .int .i8 0, .int .i8 1, .int .i8 (-1), .int .i8 0]) (.int .i64 1)).run Tryz.prog w = .ok (.agg #[.int .i8 1, .int .i8 0]) w := fun _ => by kernel_rfl
  have i2 : ∀ w, (Instr.index 227 (.agg #[.int .i8 0, .int .i8 (-1), .int .i8 1, .int .i8 0, .int .i8 0, .int .i8 1, .int .i8 (-1), .int .i8 0]) (.int .i64 2)).run Tryz.prog w = .ok (.agg #[.int .i8 0, .int .i8 1]) w := fun _ => by kernel_rfl
  have i3 : ∀ w, (Instr.index 227 (.agg #[.int .i8 0, .int .i8 (-1), .int .i8 1, .int .i8 0, .int .i8 0, .int .i8 1, .int .i8 (-1), .int .i8 0]) (.int .i64 3)).run Tryz.prog w = .ok (.agg #[.int .i8 (-1), .int .i8 0]) w := fun _ => by kernel_rfl
  rcases hs with rfl | rfl | rfl | rfl
  all_goals
    go_enter Tryz.func145, Tryz.ntmps145
    go_wp2
    exact bodyPost_ret (v := (nxt c _).val) (by simp [results, Tryz.results145, go_sem, nxt, Int.sub_eq_add_neg]) rfl ⟨rfl, (by repeat (first | with_reducible exact Below.refl _ _ | with_reducible assumption | with_reducible apply bl_drewN | with_reducible apply bl_drew | with_reducible apply bl_alloc | (with_reducible refine bl_set ?_ (by first | (simp; done) | (simp; omega)) _) | with_reducible refine bl_trans ?_ (by with_reducible assumption)))⟩
end Go.Proofs.YtmeefmoblkiebaaGreat
/- Contracts: the side on which a cell lies. -/
namespace Go.Proofs.YtmeefmoblkiebaaGreat
open Go.RowKit
set_option linter.unusedVariables false
set_option linter.unusedSimpArgs false
set_option maxHeartbeats 400000
set_option maxRecDepth 100000
end Go.Proofs.YtmeefmoblkiebaaGreat
/- Contracts: whether a cell is in a list. -/
namespace Go.Proofs.YtmeefmoblkiebaaGreat
open Go.RowKit
set_option linter.unusedVariables false
set_option linter.unusedSimpArgs false
set_option maxHeartbeats 400000
set_option maxRecDepth 100000
/-- A new block, as a row of one element. -/
theorem own_new (w : World) (cs : Array Value) (T : TypeId) (size base : Nat) (hb : base ≤ w.heap.size) (hs : cs.size = size) : (w.alloc (.cells cs T)).ownsRow base T size (.slice (some ⟨w.heap.size, 0, none⟩) 1 1) 1 cs.toList := by
  refine ⟨by simp [hs], .inr ⟨w.heap.size, 1, cs, rfl, hb, heap_alloc_new w _, Nat.le_refl _, by simp [maxLen], by simp [hs], ?_⟩⟩
  rw [List.take_of_length_le (by simp [hs])]
theorem own_newAt (w : World) (cs : Array Value) (T : TypeId) (size base g : Nat) (hg : g = w.heap.size) (hb : base ≤ g) (hs : cs.size = size) (xs : List Value) (hx : xs = cs.toList) : (w.alloc (.cells cs T)).ownsRow base T size (.slice (some ⟨g, 0, none⟩) 1 1) 1 xs := by
  subst hg hx
  exact own_new w cs T size base hb hs
/-- The first place of a cell, -1: none. -/
def idxC (c : Ce) (cs : List Ce) : Int := (cs.findIdx? (fun x => decide (c = x))).elim (-1) (fun n => (n : Int))
theorem idxC_mem (c : Ce) (cs : List Ce) : decide (0 ≤ idxC c cs) = decide (c ∈ cs) := by
  unfold idxC
  cases hf : cs.findIdx? (fun x => decide (c = x)) with
  | none =>
    rw [List.findIdx?_eq_none_iff] at hf
    have : c ∉ cs := fun h => by have := hf c h; simp at this
    simp [this]
  | some k =>
    rw [List.findIdx?_eq_some_iff_getElem] at hf
    obtain ⟨h1, h2, -⟩ := hf
    have h3 : c = cs[k] := by simpa using h2
    have : c ∈ cs := h3 ▸ List.getElem_mem h1
    simp [this]
theorem indexCe_any {B : Nat} (a : Option Addr) (cap : Nat) (cs : List Ce) (c : Ce) (w : World) (h : CesAt B w a cs) (hB : B ≤ w.heap.size) (hn : cs.length ≤ 10000000) :
    Calls Tryz.prog 175 #[.slice a cs.length cap, c.val] w fun e w' => e = .returned (.int .i64 (idxC c cs)) ∧ Below w.heap.size w w' := by
  go_enter Tryz.func175, Tryz.ntmps175
  go_wp2
  go_loopw [8] (fun i wr => ∃ j : Nat, j ≤ cs.length ∧ i = .int .i64 j ∧ Hid ((cs.take j).findIdx? (fun x => decide (c = x)) = none) ∧ Below (w.alloc (.cells #[.int .i8 c.x, .int .i8 c.y] 47)).heap.size (w.alloc (.cells #[.int .i8 c.x, .int .i8 c.y] 47)) wr) (fun i _ => cs.length - (intOf i).toNat)
  case atStart => exact ⟨0, by omega, rfl, Lib.hid (by simp), Below.refl _ _⟩
  case round =>
    obtain ⟨j, hj, rfl, hno, hb⟩ := hrel
    obtain ⟨hc, hf⟩ := bcell hb
    have hz := hb.size
    simp at hz
    have l0 : w.heap.size < wr.heap.size := by omega
    have hbw : Below w.heap.size w wr := bl_trans (bl_alloc (Below.refl _ _)) hb
    by_cases hlt : j < cs.length
    · obtain ⟨b, off, rfl, hbl, hat⟩ := ces_get h hlt
      unfold CeAt at hat
      have l1 : b < w.heap.size + 1 := by omega
      have l2 : b < w.heap.size := by omega
      have hne : b ≠ w.heap.size := by omega
      have he : ∀ w, (binOp .eql 47 c.val (.agg #[.int .i8 cs[j].x, .int .i8 cs[j].y])).run Tryz.prog w = .ok (.bool (decide (c = cs[j]))) w := run_eql_ce c.x c.y cs[j].x cs[j].y
      rcases dec_cases (c = cs[j]) with ⟨q, q'⟩ | ⟨q, q'⟩
      · rw [q] at he
        have hi : cs.findIdx? (fun x => decide (c = x)) = some j := by
          rw [List.findIdx?_eq_some_iff_getElem]
          refine ⟨hlt, q, fun i hi => ?_⟩
          have h3 := hno.out
          rw [List.findIdx?_eq_none_iff] at h3
          have := h3 cs[i] (by rw [List.mem_take_iff_getElem]; exact ⟨i, by omega, rfl⟩)
          simpa using this
        have HQ := Lib.hid (show idxC c cs = j by unfold idxC; rw [hi]; rfl)
        clear q' hi
        go_wp2
        go_quiet (fail)
        go_wp2
        go_ret
        exact ⟨by rw [HQ.out]; rfl, (by repeat (first | with_reducible exact Below.refl _ _ | with_reducible assumption | with_reducible apply bl_drewN | with_reducible apply bl_drew | with_reducible apply bl_alloc | (with_reducible refine bl_set ?_ (by first | (simp; done) | (simp; omega)) _) | with_reducible refine bl_trans ?_ (by with_reducible assumption)))⟩
      · rw [q] at he
        have HQ := Lib.hid q; clear q q'
        go_wp2
        go_quiet (fail)
        go_wp2
        go_roundw
        case rel => exact ⟨j + 1, by omega, by go_num, Lib.hid (by rw [List.take_succ_eq_append_getElem hlt, List.findIdx?_append, hno.out]; simp only [List.findIdx?_cons, HQ.out]; simp), (by repeat (first | with_reducible exact Below.refl _ _ | with_reducible assumption | with_reducible apply bl_drewN | with_reducible apply bl_drew | with_reducible apply bl_alloc | (with_reducible refine bl_set ?_ (by first | (simp; done) | (simp; omega)) _) | with_reducible refine bl_trans ?_ (by with_reducible assumption)))⟩
        case measure => simp [intOf]; omega
    · go_wp2
      go_ret
      have := hno.out
      rw [List.take_of_length_le (by omega)] at this
      exact ⟨by unfold idxC; rw [this]; rfl, hbw⟩
theorem containsCe_any {B : Nat} (a : Option Addr) (cap : Nat) (cs : List Ce) (c : Ce) (w : World) (h : CesAt B w a cs) (hB : B ≤ w.heap.size) (hn : cs.length ≤ 10000000) :
    Calls Tryz.prog 134 #[.slice a cs.length cap, c.val] w fun e w' => e = .returned (.bool (decide (c ∈ cs))) ∧ Below w.heap.size w w' := by
  have HM := Lib.hid (idxC_mem c cs)
  have HI := Lib.hid (fun w' (hb : Below w.heap.size w w') => indexCe_any a cap cs c w' (h.below hb hB) (Nat.le_trans hB hb.size) hn)
  go_enter Tryz.func134, Tryz.ntmps134
  go_wp2_with fail
  refine (HI.out _ (by repeat (first | with_reducible exact Below.refl _ _ | with_reducible assumption | with_reducible apply bl_drewN | with_reducible apply bl_drew | with_reducible apply bl_alloc | (with_reducible refine bl_set ?_ (by first | (simp; done) | (simp; omega)) _) | with_reducible refine bl_trans ?_ (by with_reducible assumption)))).mono ?_
  rintro e w1 ⟨rfl, hb⟩
  go_wp2
  go_ret
  exact ⟨by rw [← HM.out]; rfl, (by repeat (first | with_reducible exact Below.refl _ _ | with_reducible assumption | with_reducible apply bl_drewN | with_reducible apply bl_drew | with_reducible apply bl_alloc | (with_reducible refine bl_set ?_ (by first | (simp; done) | (simp; omega)) _) | with_reducible refine bl_trans ?_ (by with_reducible assumption)))⟩
end Go.Proofs.YtmeefmoblkiebaaGreat
/- Lines of cells: plain laws. -/
namespace Go.Proofs.YtmeefmoblkiebaaGreat
open Go.RowKit
set_option linter.unusedVariables false
set_option linter.unusedSimpArgs false
set_option maxHeartbeats 400000
set_option maxRecDepth 100000
theorem w8_eq (n : Int) : w8 n = if n % 256 ≥ 128 then n % 256 - 256 else n % 256 := by
  simp only [w8, IntKind.wrap]
  rw [show IntKind.i8.signed = true from rfl, show IntKind.i8.bits = 8 from rfl]
  simp
theorem w8_back (n : Int) (h : I8 n) (d : Int) : w8 (w8 (n + d) - d) = n := by
  obtain ⟨h1, h2⟩ := h
  simp only [w8_eq]
  split <;> split <;> omega
/-- The opposite side. -/
theorem nxt_back (a c : Ce) (ha : a.ok) (s : Int) (h5 : 0 ≤ s) (h6 : s ≤ 3) (h : nxt a s = c) : nxt c ((s + 2) % 4) = a := by
  subst h
  obtain ⟨x, y⟩ := a
  have hs : s = 0 ∨ s = 1 ∨ s = 2 ∨ s = 3 := by omega
  have b1 := w8_back x ha.1 1
  have b2 := w8_back y ha.2 1
  have b3 := w8_back x ha.1 (-1)
  have b4 := w8_back y ha.2 (-1)
  simp only [Int.sub_neg, ← Int.sub_eq_add_neg] at b3 b4
  rcases hs with rfl | rfl | rfl | rfl <;> simp [nxt, b1, b2, b3, b4]
end Go.Proofs.YtmeefmoblkiebaaGreat
/- Pushes and falls as lists of cells. -/
namespace Go.Proofs.YtmeefmoblkiebaaGreat
open Go.RowKit
set_option linter.unusedVariables false
set_option linter.unusedSimpArgs false
set_option maxHeartbeats 400000
set_option maxRecDepth 100000
structure Pu where
  x : Int
  y : Int
  s : Int
  t : Int
  deriving Inhabited, DecidableEq
def Pu.ok (p : Pu) : Prop := I8 p.x ∧ I8 p.y ∧ I8 p.s ∧ (-32768 ≤ p.t ∧ p.t ≤ 32767)
def Pu.cells (p : Pu) : List Value := [.int .i8 p.x, .int .i8 p.y, .int .i8 p.s, .int .i16 p.t]
abbrev Pu.val (p : Pu) : Value := .agg #[.int .i8 p.x, .int .i8 p.y, .int .i8 p.s, .int .i16 p.t]
theorem Pu.len (p : Pu) : (Pu.cells p).length = 4 := rfl
theorem Pu.one (p : Pu) : ∀ u ∈ Pu.cells p, u.oneCell' = true := by
  intro u hu
  simp only [Pu.cells, List.mem_cons, List.not_mem_nil, or_false] at hu
  rcases hu with rfl | rfl | rfl | rfl <;> rfl
def PuAt (w : World) (b off : Nat) (p : Pu) : Prop :=
  w.cell? ⟨b, off, none⟩ = some (.int .i8 p.x) ∧ w.cell? ⟨b, off + 1, none⟩ = some (.int .i8 p.y) ∧ w.cell? ⟨b, off + 2, none⟩ = some (.int .i8 p.s) ∧ w.cell? ⟨b, off + 3, none⟩ = some (.int .i16 p.t)
theorem pus_get {B : Nat} {w : World} {a : Option Addr} {ps : List Pu} (h : SlAt B w a (flat Pu.cells ps)) {k : Nat} (hk : k < ps.length) :
    ∃ b off, a = some ⟨b, off, none⟩ ∧ b < B ∧ PuAt w b (off + k * 4) ps[k] := by
  obtain ⟨b, off, h1, h2, h3⟩ := SlAt.get Pu.len (by omega) h hk
  exact ⟨b, off, h1, h2, h3 0 _ rfl, h3 1 _ rfl, h3 2 _ rfl, h3 3 _ rfl⟩
structure Fa where
  t : Int
  f : Int
  b : Int
  deriving Inhabited, DecidableEq
def Fa.ok (p : Fa) : Prop := (-9223372036854775808 ≤ p.t ∧ p.t ≤ 9223372036854775807) ∧ I8 p.f ∧ (-9223372036854775808 ≤ p.b ∧ p.b ≤ 9223372036854775807)
def Fa.cells (p : Fa) : List Value := [.int .i64 p.t, .int .i8 p.f, .int .i64 p.b]
abbrev Fa.val (p : Fa) : Value := .agg #[.int .i64 p.t, .int .i8 p.f, .int .i64 p.b]
theorem Fa.len (p : Fa) : (Fa.cells p).length = 3 := rfl
theorem Fa.one (p : Fa) : ∀ u ∈ Fa.cells p, u.oneCell' = true := by
  intro u hu
  simp only [Fa.cells, List.mem_cons, List.not_mem_nil, or_false] at hu
  rcases hu with rfl | rfl | rfl <;> rfl
def FaAt (w : World) (b off : Nat) (p : Fa) : Prop :=
  w.cell? ⟨b, off, none⟩ = some (.int .i64 p.t) ∧ w.cell? ⟨b, off + 1, none⟩ = some (.int .i8 p.f) ∧ w.cell? ⟨b, off + 2, none⟩ = some (.int .i64 p.b)
theorem fas_get {B : Nat} {w : World} {a : Option Addr} {ps : List Fa} (h : SlAt B w a (flat Fa.cells ps)) {k : Nat} (hk : k < ps.length) :
    ∃ b off, a = some ⟨b, off, none⟩ ∧ b < B ∧ FaAt w b (off + k * 3) ps[k] := by
  obtain ⟨b, off, h1, h2, h3⟩ := SlAt.get Fa.len (by omega) h hk
  exact ⟨b, off, h1, h2, h3 0 _ rfl, h3 1 _ rfl, h3 2 _ rfl⟩
end Go.Proofs.YtmeefmoblkiebaaGreat
/- The fall of a piece that follows from pushes and from its neighbours' falls: plain laws. -/
namespace Go.Proofs.YtmeefmoblkiebaaGreat
open Go.RowKit
set_option linter.unusedVariables false
set_option linter.unusedSimpArgs false
set_option maxHeartbeats 400000
set_option maxRecDepth 100000
/-- A hit: tick, side, by whom (-1: a push). -/
abbrev Ht := Int × Int × Int
def ltH (a b : Ht) : Bool := decide (a.1 < b.1) || (decide (a.1 = b.1) && (decide (a.2.1 < b.2.1) || (decide (a.2.1 = b.2.1) && decide (a.2.2 < b.2.2))))
def stepH (o : Option Ht) (x : Ht) : Option Ht :=
  match o with
  | none => some x
  | some m => if ltH x m = true then some x else some m
/-- The least hit, the first of those that are equal. -/
def bestH (xs : List Ht) : Option Ht := xs.foldl stepH none
theorem bestH_snoc (xs : List Ht) (x : Ht) : bestH (xs ++ [x]) = stepH (bestH xs) x := by simp [bestH]
theorem stepH_mem (o : Option Ht) (x m : Ht) (h : stepH o x = some m) : m = x ∨ o = some m := by
  unfold stepH at h
  cases o with
  | none => simp only [Option.some.injEq] at h; exact .inl h.symm
  | some n =>
    simp only at h
    split at h
    · simp only [Option.some.injEq] at h; exact .inl h.symm
    · exact .inr h
theorem bestH_mem (xs : List Ht) (m : Ht) (h : bestH xs = some m) : m ∈ xs := by
  have key : ∀ (ys : List Ht) (o : Option Ht), ys.foldl stepH o = some m → m ∈ ys ∨ o = some m := by
    intro ys
    induction ys with
    | nil => intro o h; exact .inr h
    | cons y ys ih =>
      intro o h
      rcases ih _ h with h1 | h1
      · exact .inl (List.mem_cons_of_mem _ h1)
      · rcases stepH_mem o y m h1 with h2 | h2
        · exact .inl (h2 ▸ List.mem_cons_self)
        · exact .inr h2
  rcases key xs none h with h1 | h1
  · exact h1
  · cases h1
theorem bestH_none (xs : List Ht) (h : bestH xs = none) : xs = [] := by
  have key : ∀ (ys : List Ht) (o : Option Ht), o ≠ none → ys.foldl stepH o ≠ none := by
    intro ys
    induction ys with
    | nil => intro o h; exact h
    | cons y ys ih =>
      intro o ho
      apply ih
      unfold stepH
      cases o with
      | none => exact absurd rfl ho
      | some n => simp only; split <;> simp
  cases xs with
  | nil => rfl
  | cons x xs => exact absurd h (key xs _ (by simp [stepH]))
def faOf (o : Option Ht) : Fa := match o with | none => ⟨-1, 0, -1⟩ | some m => ⟨m.1, m.2.1, m.2.2⟩
/-- The hits of pushes on the piece i. -/
def candP (ps : List Pc) (pl : List Pu) (i : Nat) : List Ht := pl.filterMap fun p => if (⟨p.x, p.y⟩ : Ce) = (ps.getD i default).at_ then some (p.t, p.s, -1) else none
/-- The hit of the neighbour on a side of the piece i. -/
def candN1 (ps : List Pc) (fs : List Fa) (i : Nat) (side : Int) : Option Ht :=
  let k := fnd (nxt (ps.getD i default).at_ side) ps
  if 0 ≤ k ∧ k < fs.length ∧ (fs.getD k.toNat default).t ≠ -1 ∧ max (hitsV (ps.getD k.toNat default).k (ps.getD k.toNat default).t (fs.getD k.toNat default).f) 0 / 2 ^ ((side + 2) % 4).toNat % 2 = 1
  then some ((fs.getD k.toNat default).t + (ps.getD k.toNat default).d, side, k) else none
def candN (ps : List Pc) (fs : List Fa) (i : Nat) (m : Nat) : List Ht := (List.range m).filterMap fun (s : Nat) => candN1 ps fs i (s : Int)
theorem candP_snoc (ps : List Pc) (pl : List Pu) (i : Nat) (p : Pu) : candP ps (pl ++ [p]) i = candP ps pl i ++ (if (⟨p.x, p.y⟩ : Ce) = (ps.getD i default).at_ then [(p.t, p.s, -1)] else []) := by
  unfold candP
  rw [List.filterMap_append]
  congr 1
  simp only [List.filterMap_cons, List.filterMap_nil]
  by_cases h : (⟨p.x, p.y⟩ : Ce) = (ps.getD i default).at_
  · rw [if_pos h, if_pos h]
  · rw [if_neg h, if_neg h]
def canH (ps : List Pc) (i : Nat) (h : Ht) : Bool := decide (0 ≤ hitsV (ps.getD i default).k (ps.getD i default).t h.2.1)
def dueC (ps : List Pc) (pl : List Pu) (fs : List Fa) (i : Nat) : List Ht := (candP ps pl i ++ candN ps fs i 4).filter (canH ps i)
/-- The fall that follows. -/
def due (ps : List Pc) (pl : List Pu) (fs : List Fa) (i : Nat) : Fa := faOf (bestH (dueC ps pl fs i))
/-- Which pushes are valid for a board. -/
def plainPu (p : Pu) : Bool := inB p.s 0 3 && inB p.t 0 1000
end Go.Proofs.YtmeefmoblkiebaaGreat
/- Falls of which each follows from the others are unique: plain law. -/
namespace Go.Proofs.YtmeefmoblkiebaaGreat
open Go.RowKit
set_option linter.unusedVariables false
set_option linter.unusedSimpArgs false
set_option maxHeartbeats 400000
set_option maxRecDepth 100000
theorem ltH_iff (a b : Ht) : ltH a b = true ↔ a.1 < b.1 ∨ (a.1 = b.1 ∧ (a.2.1 < b.2.1 ∨ (a.2.1 = b.2.1 ∧ a.2.2 < b.2.2))) := by
  unfold ltH
  simp only [Bool.or_eq_true, Bool.and_eq_true, decide_eq_true_eq]
theorem ltH_irrefl (a : Ht) : ltH a a = false := by
  rw [Bool.eq_false_iff]; intro h; rw [ltH_iff] at h; omega
theorem ltH_trans {a b c : Ht} (h : ltH a b = true) (k : ltH b c = true) : ltH a c = true := by
  rw [ltH_iff] at *; omega
theorem ltH_total {a b : Ht} (h : ltH a b = false) (k : ltH b a = false) : a = b := by
  rw [Bool.eq_false_iff] at h k
  rw [ne_eq, ltH_iff] at h k
  obtain ⟨a1, a2, a3⟩ := a
  obtain ⟨b1, b2, b3⟩ := b
  simp only at h k
  have e1 : a1 = b1 := by omega
  have e2 : a2 = b2 := by omega
  have e3 : a3 = b3 := by omega
  rw [e1, e2, e3]
theorem bestH_le (xs : List Ht) : ∀ (m : Ht), bestH xs = some m → ∀ x ∈ xs, ltH x m = false := by
  have key : ∀ (ys : List Ht) (o : Option Ht) (m : Ht), ys.foldl stepH o = some m → (∀ n, o = some n → ltH n m = false) ∧ ∀ x ∈ ys, ltH x m = false := by
    intro ys
    induction ys with
    | nil =>
      intro o m h
      refine ⟨fun n hn => ?_, by simp⟩
      have h2 : o = some m := h
      rw [hn] at h2
      simp only [Option.some.injEq] at h2
      rw [h2]; exact ltH_irrefl m
    | cons y ys ih =>
      intro o m h
      obtain ⟨h1, h2⟩ := ih (stepH o y) m h
      cases o with
      | none =>
        have h3 := h1 y rfl
        refine ⟨(fun n hn => by cases hn), fun x hx => ?_⟩
        rcases List.mem_cons.1 hx with rfl | hx
        · exact h3
        · exact h2 x hx
      | some n =>
        by_cases hl : ltH y n = true
        · have h3 := h1 y (by simp [stepH, hl])
          refine ⟨fun n' hn => ?_, fun x hx => ?_⟩
          · cases hn
            rw [Bool.eq_false_iff]
            intro hc
            rw [Bool.eq_false_iff] at h3
            exact h3 (ltH_trans hl hc)
          · rcases List.mem_cons.1 hx with rfl | hx
            · exact h3
            · exact h2 x hx
        · have h3 := h1 n (by simp [stepH, hl])
          refine ⟨(fun n' hn => by cases hn; exact h3), fun x hx => ?_⟩
          rcases List.mem_cons.1 hx with rfl | hx
          · rw [Bool.eq_false_iff]
            intro hc
            -- x < m, n is not before m, x is not before n
            have h4 : ltH n m = true ∨ n = m ∨ ltH m n = true := by
              by_cases e1 : ltH n m = true
              · exact .inl e1
              · by_cases e2 : ltH m n = true
                · exact .inr (.inr e2)
                · exact .inr (.inl (ltH_total (by simpa using e1) (by simpa using e2)))
            rcases h4 with h4 | rfl | h4
            · rw [h4] at h3; cases h3
            · exact hl hc
            · exact hl (ltH_trans hc h4)
          · exact h2 x hx
  intro m h x hx
  exact (key xs none m h).2 x hx
/-- What may be asked of falls ahead: one for each piece, none before the first tick but those that stay. -/
def okFa (ps : List Pc) (pl : List Pu) (fs : List Fa) : Prop := fs.length = ps.length ∧ (∀ i, i < ps.length → -1 ≤ (fs.getD i default).t) ∧ (∀ i, i < ps.length → fs.getD i default = due ps pl fs i)
theorem cand_mem (ps : List Pc) (pl : List Pu) (fs : List Fa) (i : Nat) (m : Ht) : m ∈ dueC ps pl fs i ↔ canH ps i m = true ∧ (m ∈ candP ps pl i ∨ ∃ s : Nat, s < 4 ∧ candN1 ps fs i (s : Int) = some m) := by
  unfold dueC candN
  rw [List.mem_filter, List.mem_append, List.mem_filterMap]
  constructor
  · rintro ⟨h1, h2⟩
    refine ⟨h2, h1.imp id ?_⟩
    rintro ⟨s, hs, h⟩
    exact ⟨s, List.mem_range.1 hs, h⟩
  · rintro ⟨h1, h2⟩
    refine ⟨h2.imp id ?_, h1⟩
    rintro ⟨s, hs, h⟩
    exact ⟨s, List.mem_range.2 hs, h⟩
theorem candP_tick (ps : List Pc) (pl : List Pu) (hp : ∀ p ∈ pl, 0 ≤ p.t) (i : Nat) (m : Ht) (h : m ∈ candP ps pl i) : 0 ≤ m.1 := by
  unfold candP at h
  rw [List.mem_filterMap] at h
  obtain ⟨p, hpm, h⟩ := h
  split at h
  · simp only [Option.some.injEq] at h
    rw [← h]; exact hp p hpm
  · cases h
/-- The neighbour behind a hit. -/
theorem candN1_some (ps : List Pc) (fs : List Fa) (i : Nat) (s : Int) (m : Ht) (h : candN1 ps fs i s = some m) (hl : fs.length = ps.length) :
    ∃ k : Nat, k < ps.length ∧ fnd (nxt (ps.getD i default).at_ s) ps = k ∧ (fs.getD k default).t ≠ -1 ∧ m.1 = (fs.getD k default).t + (ps.getD k default).d ∧
      ∀ gs : List Fa, gs.length = ps.length → gs.getD k default = fs.getD k default → candN1 ps gs i s = some m := by
  have h0 := h
  unfold candN1 at h
  simp only at h
  split at h
  · rename_i hc
    obtain ⟨c1, c2, c3, c4⟩ := hc
    refine ⟨(fnd (nxt (ps.getD i default).at_ s) ps).toNat, by omega, by omega, c3, ?_, ?_⟩
    · simp only [Option.some.injEq] at h
      rw [← h]
    · intro gs hg he
      rw [← h0]
      unfold candN1
      simp only
      rw [he, hg, hl]
  · cases h
theorem due_some (ps : List Pc) (pl : List Pu) (fs : List Fa) (i : Nat) (hd : ∀ j, j < ps.length → 1 ≤ (ps.getD j default).d) (hp : ∀ p ∈ pl, 0 ≤ p.t) (h : okFa ps pl fs) (m : Ht) (hm : m ∈ dueC ps pl fs i) : 0 ≤ m.1 := by
  rw [cand_mem] at hm
  rcases hm.2 with h1 | ⟨s, hs, h1⟩
  · exact candP_tick ps pl hp i m h1
  · obtain ⟨k, hk, -, h2, h3, -⟩ := candN1_some ps fs i s m h1 h.1
    have h4 := h.2.1 k hk
    have h5 := hd k hk
    omega
theorem due_half (ps : List Pc) (pl : List Pu) (fs gs : List Fa) (hd : ∀ j, j < ps.length → 1 ≤ (ps.getD j default).d) (hp : ∀ p ∈ pl, 0 ≤ p.t) (hf : okFa ps pl fs) (hg : okFa ps pl gs) (T : Int)
    (ih : ∀ i, i < ps.length → (((fs.getD i default).t ≠ -1 ∧ (fs.getD i default).t < T) ∨ ((gs.getD i default).t ≠ -1 ∧ (gs.getD i default).t < T)) → fs.getD i default = gs.getD i default)
    (i : Nat) (hi : i < ps.length) (h1 : (fs.getD i default).t ≠ -1) (h2 : (fs.getD i default).t = T) : fs.getD i default = gs.getD i default := by
  have e1 := hf.2.2 i hi
  have e2 := hg.2.2 i hi
  unfold due at e1 e2
  cases hm : bestH (dueC ps pl fs i) with
  | none => rw [hm] at e1; rw [e1] at h1; exact absurd rfl h1
  | some m =>
    rw [hm] at e1
    have hmT : m.1 = T := by rw [e1] at h2; exact h2
    have hmem := bestH_mem _ m hm
    have hmin := bestH_le _ m hm
    have hin : m ∈ dueC ps pl gs i := by
      rw [cand_mem] at hmem ⊢
      refine ⟨hmem.1, hmem.2.imp id ?_⟩
      rintro ⟨s, hs, h3⟩
      obtain ⟨k, hk, -, h4, h5, h6⟩ := candN1_some ps fs i s m h3 hf.1
      have h7 := hd k hk
      exact ⟨s, hs, h6 gs hg.1 (ih k hk (.inl ⟨h4, by omega⟩)).symm⟩
    cases hm' : bestH (dueC ps pl gs i) with
    | none =>
      have := bestH_none _ hm'
      rw [this] at hin
      cases hin
    | some m' =>
      rw [hm'] at e2
      have hmem' := bestH_mem _ m' hm'
      have hmin' := bestH_le _ m' hm'
      have hle := hmin' m hin
      have hle1 : m'.1 ≤ m.1 := by
        rw [Bool.eq_false_iff, ne_eq, ltH_iff] at hle
        omega
      have hin' : m' ∈ dueC ps pl fs i := by
        rw [cand_mem] at hmem' ⊢
        refine ⟨hmem'.1, hmem'.2.imp id ?_⟩
        rintro ⟨s, hs, h3⟩
        obtain ⟨k, hk, -, h4, h5, h6⟩ := candN1_some ps gs i s m' h3 hg.1
        have h7 := hd k hk
        exact ⟨s, hs, h6 fs hf.1 (ih k hk (.inr ⟨h4, by omega⟩))⟩
      have he : m = m' := ltH_total hle (hmin m' hin')
      rw [e1, e2, he]
theorem due_unique (ps : List Pc) (pl : List Pu) (fs gs : List Fa) (hd : ∀ j, j < ps.length → 1 ≤ (ps.getD j default).d) (hp : ∀ p ∈ pl, 0 ≤ p.t) (hf : okFa ps pl fs) (hg : okFa ps pl gs) : fs = gs := by
  have key : ∀ T : Nat, ∀ i, i < ps.length → (((fs.getD i default).t ≠ -1 ∧ (fs.getD i default).t < T) ∨ ((gs.getD i default).t ≠ -1 ∧ (gs.getD i default).t < T)) → fs.getD i default = gs.getD i default := by
    intro T
    induction T with
    | zero =>
      intro i hi h
      have a1 := hf.2.1 i hi
      have a2 := hg.2.1 i hi
      omega
    | succ T ih =>
      intro i hi h
      rcases h with ⟨h1, h2⟩ | ⟨h1, h2⟩
      · by_cases h3 : (fs.getD i default).t < T
        · exact ih i hi (.inl ⟨h1, h3⟩)
        · exact due_half ps pl fs gs hd hp hf hg T ih i hi h1 (by omega)
      · by_cases h3 : (gs.getD i default).t < T
        · exact ih i hi (.inr ⟨h1, h3⟩)
        · exact (due_half ps pl gs fs hd hp hg hf T (fun j hj h => (ih j hj h.symm).symm) i hi h1 (by omega)).symm
  apply List.ext_getElem
  · rw [hf.1, hg.1]
  · intro i hi hi2
    have hip : i < ps.length := by rw [← hf.1]; exact hi
    have c1 : fs.getD i default = fs[i] := by rw [List.getD_eq_getElem?_getD, List.getElem?_eq_getElem hi]; rfl
    have c2 : gs.getD i default = gs[i] := by rw [List.getD_eq_getElem?_getD, List.getElem?_eq_getElem hi2]; rfl
    rw [← c1, ← c2]
    have a1 := hf.2.1 i hip
    have a2 := hg.2.1 i hip
    by_cases h1 : (fs.getD i default).t = -1
    · by_cases h2 : (gs.getD i default).t = -1
      · have key2 : ∀ (hs : List Fa), okFa ps pl hs → (hs.getD i default).t = -1 → hs.getD i default = ⟨-1, 0, -1⟩ := by
          intro hs hk ht
          have e1 := hk.2.2 i hip
          unfold due at e1
          cases hm : bestH (dueC ps pl hs i) with
          | none => rw [e1, hm]; rfl
          | some m =>
            have := due_some ps pl hs i hd hp hk m (bestH_mem _ m hm)
            rw [e1, hm] at ht
            have h9 : m.1 = -1 := ht
            omega
        rw [key2 fs hf h1, key2 gs hg h2]
      · exact key ((gs.getD i default).t.toNat + 1) i hip (.inr ⟨h2, by omega⟩)
    · exact key ((fs.getD i default).t.toNat + 1) i hip (.inl ⟨h1, by omega⟩)
end Go.Proofs.YtmeefmoblkiebaaGreat
/- The run of a board: plain laws about least hits and about a piece that falls. -/
namespace Go.Proofs.YtmeefmoblkiebaaGreat
open Go.RowKit
set_option linter.unusedVariables false
set_option linter.unusedSimpArgs false
set_option maxHeartbeats 400000
set_option maxRecDepth 100000
/-- o is the least of those in S, none where there is none. -/
def Least (S : Ht → Prop) (o : Option Ht) : Prop :=
  match o with
  | none => ∀ m, ¬ S m
  | some m => S m ∧ ∀ x, S x → ltH x m = false
theorem least_best (xs : List Ht) : Least (fun m => m ∈ xs) (bestH xs) := by
  cases h : bestH xs with
  | none => intro m hm; rw [bestH_none xs h] at hm; cases hm
  | some m => exact ⟨bestH_mem xs m h, bestH_le xs m h⟩
theorem least_one {S : Ht → Prop} {o o' : Option Ht} (h : Least S o) (h' : Least S o') : o = o' := by
  cases o with
  | none =>
    cases o' with
    | none => rfl
    | some m => exact absurd h'.1 (h m)
  | some m =>
    cases o' with
    | none => exact absurd h.1 (h' m)
    | some m' => rw [ltH_total (h'.2 m h.1) (h.2 m' h'.1)]
theorem least_iff {S S' : Ht → Prop} {o : Option Ht} (hs : ∀ m, S m ↔ S' m) (h : Least S o) : Least S' o := by
  cases o with
  | none => exact fun m hm => h m ((hs m).2 hm)
  | some m => exact ⟨(hs m).1 h.1, fun x hx => h.2 x ((hs x).2 hx)⟩
theorem ltH_asymm {a b : Ht} (h : ltH a b = true) : ltH b a = false := by
  rw [Bool.eq_false_iff]; intro h2
  have := ltH_trans h h2
  rw [ltH_irrefl] at this; cases this
theorem ltH_ge_trans {x m y : Ht} (h1 : ltH x m = false) (h2 : ltH m y = false) : ltH x y = false := by
  rw [Bool.eq_false_iff] at *
  rw [ne_eq, ltH_iff] at *
  omega
theorem least_add {S : Ht → Prop} {o : Option Ht} (x : Ht) (h : Least S o) : Least (fun m => S m ∨ m = x) (stepH o x) := by
  cases o with
  | none =>
    refine ⟨.inr rfl, fun y hy => ?_⟩
    rcases hy with hy | rfl
    · exact absurd hy (h y)
    · exact ltH_irrefl _
  | some m =>
    unfold stepH
    by_cases hl : ltH x m = true
    · simp only [hl, if_true]
      refine ⟨.inr rfl, fun y hy => ?_⟩
      rcases hy with hy | rfl
      · exact ltH_ge_trans (h.2 y hy) (ltH_asymm hl)
      · exact ltH_irrefl _
    · simp only [hl, if_false, Bool.false_eq_true]
      refine ⟨.inl h.1, fun y hy => ?_⟩
      rcases hy with hy | rfl
      · exact h.2 y hy
      · simpa using hl
theorem least_late {S S' : Ht → Prop} {m : Ht} (h : Least S (some m)) (hS : ∀ x, S x → S' x) (hs : ∀ x, S' x → S x ∨ m.1 < x.1) : Least S' (some m) := by
  refine ⟨hS _ h.1, fun x hx => ?_⟩
  rcases hs x hx with h1 | h1
  · exact h.2 x h1
  · rw [Bool.eq_false_iff, ne_eq, ltH_iff]; omega
theorem nxt_nxt (c : Ce) (hc : c.ok) (s : Int) (h0 : 0 ≤ s) (h3 : s ≤ 3) : nxt (nxt c s) ((s + 2) % 4) = c := nxt_back c _ hc s h0 h3 rfl
theorem fnd_iff (ps : List Pc) (hnd : (ps.map Pc.at_).Nodup) (c : Ce) (k : Nat) : fnd c ps = (k : Int) ↔ ∃ h : k < ps.length, ps[k].at_ = c := by
  unfold fnd
  constructor
  · intro h
    cases hf : ps.findIdx? (fun p => decide (p.at_ = c)) with
    | none => rw [hf] at h; simp only [Option.elim] at h; omega
    | some j =>
      rw [hf] at h
      simp only [Option.elim] at h
      have : j = k := by omega
      subst this
      rw [List.findIdx?_eq_some_iff_getElem] at hf
      obtain ⟨g1, g2, -⟩ := hf
      exact ⟨g1, by simpa using g2⟩
  · rintro ⟨h, hc⟩
    have : ps.findIdx? (fun p => decide (p.at_ = c)) = some k := by
      rw [List.findIdx?_eq_some_iff_getElem]
      refine ⟨h, by simpa using hc, fun j hj => ?_⟩
      simp only [decide_eq_true_eq]
      intro he
      have h1 : (ps.map Pc.at_)[j]'(by simp; omega) = (ps.map Pc.at_)[k]'(by simpa using h) := by simp [he, hc]
      exact List.pairwise_iff_getElem.1 hnd j k (by simp; omega) (by simpa using h) hj h1
    rw [this]; rfl
/-- What falls of the piece a gives its neighbours: over its side s, the piece i the hit m. -/
def newC (ps : List Pc) (a : Nat) (f : Fa) (s i : Nat) (m : Ht) : Prop :=
  max (hitsV (ps.getD a default).k (ps.getD a default).t f.f) 0 / 2 ^ s % 2 = 1 ∧ fnd (nxt (ps.getD a default).at_ (s : Int)) ps = (i : Int) ∧ canH ps i m = true ∧ m = (f.t + (ps.getD a default).d, ((s : Int) + 2) % 4, (a : Int))
theorem getD_set (fs : List Fa) (a k : Nat) (f : Fa) (ha : a < fs.length) : (fs.set a f).getD k default = if k = a then f else fs.getD k default := by
  rw [List.getD_eq_getElem?_getD, List.getD_eq_getElem?_getD, List.getElem?_set]
  by_cases h : a = k
  · rw [if_pos h, if_pos h.symm, if_pos (by omega)]; rfl
  · rw [if_neg h, if_neg (fun e => h e.symm)]
theorem candN1_set (ps : List Pc) (fs : List Fa) (a : Nat) (f : Fa) (hl : fs.length = ps.length) (ha : a < ps.length) (h0 : (fs.getD a default).t = -1) (hf : f.t ≠ -1) (i : Nat) (s : Int) (m : Ht) :
    candN1 ps (fs.set a f) i s = some m ↔ candN1 ps fs i s = some m ∨ (fnd (nxt (ps.getD i default).at_ s) ps = (a : Int) ∧ max (hitsV (ps.getD a default).k (ps.getD a default).t f.f) 0 / 2 ^ ((s + 2) % 4).toNat % 2 = 1 ∧ m = (f.t + (ps.getD a default).d, s, (a : Int))) := by
  unfold candN1
  simp only
  rw [List.length_set, getD_set fs a _ f (by omega)]
  by_cases hk : fnd (nxt (ps.getD i default).at_ s) ps = (a : Int)
  · rw [hk, Int.toNat_natCast, if_pos rfl, h0]
    rw [if_neg (c := 0 ≤ (a : Int) ∧ _ ∧ (-1 : Int) ≠ -1 ∧ _) (fun h => h.2.2.1 rfl)]
    by_cases hb : max (hitsV (ps.getD a default).k (ps.getD a default).t f.f) 0 / 2 ^ ((s + 2) % 4).toNat % 2 = 1
    · rw [if_pos ⟨by omega, by omega, hf, hb⟩]
      simp only [Option.some.injEq, reduceCtorEq, false_or, true_and, hb]
      exact eq_comm
    · rw [if_neg (fun h => hb h.2.2.2)]
      simp only [reduceCtorEq, false_or, hb, false_and, and_false]
  · by_cases hz : 0 ≤ fnd (nxt (ps.getD i default).at_ s) ps
    · rw [if_neg (c := (fnd (nxt (ps.getD i default).at_ s) ps).toNat = a) (fun h => hk (by omega))]
      simp only [hk, false_and, or_false]
    · rw [if_neg (fun h => hz h.1), if_neg (fun h => hz h.1)]
      simp only [hk, false_and, or_false]
theorem dueC_fall (ps : List Pc) (pl : List Pu) (fs : List Fa) (a : Nat) (f : Fa) (hnd : (ps.map Pc.at_).Nodup) (hce : ∀ k, k < ps.length → (ps.getD k default).at_.ok) (hl : fs.length = ps.length) (ha : a < ps.length) (h0 : (fs.getD a default).t = -1) (hf : f.t ≠ -1) (i : Nat) (hi : i < ps.length) (m : Ht) :
    m ∈ dueC ps pl (fs.set a f) i ↔ m ∈ dueC ps pl fs i ∨ ∃ s : Nat, s < 4 ∧ newC ps a f s i m := by
  rw [cand_mem, cand_mem]
  have hga : ps.getD a default = ps[a] := by rw [List.getD_eq_getElem?_getD, List.getElem?_eq_getElem ha]; rfl
  have hgi : ps.getD i default = ps[i] := by rw [List.getD_eq_getElem?_getD, List.getElem?_eq_getElem hi]; rfl
  constructor
  · rintro ⟨h1, h2 | ⟨s, hs, h2⟩⟩
    · exact .inl ⟨h1, .inl h2⟩
    · rw [candN1_set ps fs a f hl ha h0 hf] at h2
      rcases h2 with h2 | ⟨h3, h4, h5⟩
      · exact .inl ⟨h1, .inr ⟨s, hs, h2⟩⟩
      · right
        obtain ⟨_, h6⟩ := (fnd_iff ps hnd _ _).1 h3
        refine ⟨(((s : Int) + 2) % 4).toNat, by omega, ?_⟩
        have e1 : (((((s : Int) + 2) % 4).toNat : Nat) : Int) = ((s : Int) + 2) % 4 := by omega
        refine ⟨h4, ?_, h1, ?_⟩
        · rw [e1, fnd_iff ps hnd]
          refine ⟨hi, ?_⟩
          rw [hga, h6, nxt_nxt _ (hce i hi) _ (by omega) (by omega), hgi]
        · rw [h5, e1, show (((s : Int) + 2) % 4 + 2) % 4 = s by omega]
  · rintro (⟨h1, h2 | ⟨s, hs, h2⟩⟩ | ⟨s, hs, h3, h4, h5, h6⟩)
    · exact ⟨h1, .inl h2⟩
    · exact ⟨h1, .inr ⟨s, hs, (candN1_set ps fs a f hl ha h0 hf i s m).2 (.inl h2)⟩⟩
    · refine ⟨h5, .inr ⟨(((s : Int) + 2) % 4).toNat, by omega, ?_⟩⟩
      have e1 : (((((s : Int) + 2) % 4).toNat : Nat) : Int) = ((s : Int) + 2) % 4 := by omega
      rw [e1, candN1_set ps fs a f hl ha h0 hf]
      right
      obtain ⟨_, h7⟩ := (fnd_iff ps hnd _ _).1 h4
      refine ⟨?_, ?_, ?_⟩
      · rw [fnd_iff ps hnd]
        refine ⟨ha, ?_⟩
        rw [hgi, h7, nxt_nxt _ (hce a ha) _ (by omega) (by omega), hga]
      · rw [show ((((s : Int) + 2) % 4 + 2) % 4).toNat = s by omega]; exact h3
      · rw [h6]
/-- No hit comes later than nine ticks behind what has fallen. -/
theorem due_top (ps : List Pc) (pl : List Pu) (fs : List Fa) (K : Int) (hl : fs.length = ps.length) (hK : 1000 ≤ K) (hp : ∀ p ∈ pl, p.t ≤ 1000) (hd : ∀ k, k < ps.length → (ps.getD k default).d ≤ 9) (h : ∀ k, k < ps.length → (fs.getD k default).t ≤ K) (i : Nat) (m : Ht) (hm : m ∈ dueC ps pl fs i) : m.1 ≤ K + 9 := by
  rw [cand_mem] at hm
  rcases hm.2 with h1 | ⟨s, hs, h1⟩
  · unfold candP at h1
    rw [List.mem_filterMap] at h1
    obtain ⟨p, hpm, h1⟩ := h1
    split at h1
    · simp only [Option.some.injEq] at h1
      rw [← h1]; have := hp p hpm; simp only; omega
    · cases h1
  · obtain ⟨k, hk, -, h2, h3, -⟩ := candN1_some ps fs i s m h1 hl
    have h4 := h k hk
    have h5 := hd k hk
    omega
theorem due_low (ps : List Pc) (pl : List Pu) (fs : List Fa) (hl : fs.length = ps.length) (hp : ∀ p ∈ pl, 0 ≤ p.t) (hd : ∀ k, k < ps.length → 1 ≤ (ps.getD k default).d) (h : ∀ k, k < ps.length → -1 ≤ (fs.getD k default).t) (i : Nat) (m : Ht) (hm : m ∈ dueC ps pl fs i) : 0 ≤ m.1 := by
  rw [cand_mem] at hm
  rcases hm.2 with h1 | ⟨s, hs, h1⟩
  · exact candP_tick ps pl hp i m h1
  · obtain ⟨k, hk, -, h2, h3, -⟩ := candN1_some ps fs i s m h1 hl
    have h4 := h k hk
    have h5 := hd k hk
    omega
/-- Falls of which each is the least of what is due are those that follow. -/
theorem okFa_least (ps : List Pc) (pl : List Pu) (fs : List Fa) (hl : fs.length = ps.length) (h : ∀ k, k < ps.length → -1 ≤ (fs.getD k default).t) (hb : ∀ i, i < ps.length → ∃ o, fs.getD i default = faOf o ∧ Least (fun m => m ∈ dueC ps pl fs i) o) : okFa ps pl fs := by
  refine ⟨hl, h, fun i hi => ?_⟩
  obtain ⟨o, h1, h2⟩ := hb i hi
  rw [h1]
  unfold due
  rw [least_one h2 (least_best _)]
end Go.Proofs.YtmeefmoblkiebaaGreat
/- Contracts: which pushes and falls are valid (the reference). -/
namespace Go.Proofs.YtmeefmoblkiebaaGreat
open Go.RowKit
set_option linter.unusedVariables false
set_option linter.unusedSimpArgs false
set_option maxHeartbeats 400000
set_option maxRecDepth 100000
def PusOk (ps : List Pu) : Prop := ∀ k (h : k < ps.length), ps[k].ok
end Go.Proofs.YtmeefmoblkiebaaGreat
/- Contracts for FreeCells. -/
namespace Go.Proofs.YtmeefmoblkiebaaGreat
open Go.RowKit
set_option linter.unusedVariables false
set_option linter.unusedSimpArgs false
set_option maxHeartbeats 400000
set_option maxRecDepth 100000

theorem indexFuncCe_any {B : Nat} (K : Nat) (caps : Array Value) (a : Option Addr) (cap : Nat) (ps : List Ce) (w : World) (hps : CesAt B w a ps) (hok : CesOk ps) (hB : B ≤ w.heap.size) (hn : ps.length ≤ 10000000) 
   (eg : ∀ (args : Array Value) (w : World), (callFunc K args).run Tryz.prog w = .ok (.enter K args) w) (q : Ce → Bool) (hf : ∀ (p : Ce) (w1 : World), p.ok → Below w.heap.size w w1 → Calls Tryz.prog K (#[p.val] ++ caps) w1 fun e w' => e = .returned (.bool (q p)) ∧ Below w1.heap.size w1 w'):
    Calls Tryz.prog 172 #[.slice a ps.length cap, .func (.func K) #[] caps] w fun e w' => e = .returned (.int .i64 ((ps.findIdx? q).elim (-1) (fun n => (n : Int)))) ∧ Below w.heap.size w w' := by
  go_enter Tryz.func172, Tryz.ntmps172
  go_wp2
  go_loopw [8] (fun i wr => ∃ k : Nat, k ≤ ps.length ∧ i = .int .i64 k ∧ (ps.take k).findIdx? q = none ∧ Below w.heap.size w wr) (fun i _ => ps.length - (intOf i).toNat)
  case atStart => exact ⟨0, by omega, rfl, by simp, Below.refl _ _⟩
  case round =>
    obtain ⟨k, hk, rfl, hfi, hb⟩ := hrel
    have Hfi := Lib.hid hfi; clear hfi
    by_cases hlt : k < ps.length
    · obtain ⟨b, off, rfl, hbl, hat⟩ := ces_get (hps.below hb hB) hlt
      unfold CeAt at hat
      have Hf := Lib.hid hf; clear hf
      go_wp2_with (refine (Hf.out ps[k] _ (hok k hlt) hb).mono ?_; rintro e w' ⟨rfl, hb2⟩)
      · have h1 : q ps[k] = true := by assumption
        go_ret
        refine ⟨?_, (by repeat (first | with_reducible exact Below.refl _ _ | with_reducible assumption | with_reducible apply bl_drewN | with_reducible apply bl_drew | with_reducible apply bl_alloc | (with_reducible refine bl_set ?_ (by first | (simp; done) | (simp; omega)) _) | with_reducible refine bl_trans ?_ (by with_reducible assumption)))⟩
        have h2 : ps.findIdx? q = some k := by
          rw [List.findIdx?_eq_some_iff_getElem]
          refine ⟨hlt, h1, fun j hj => ?_⟩
          have h3 := Hfi.out
          rw [List.findIdx?_eq_none_iff] at h3
          have := h3 ps[j] (by rw [List.mem_take_iff_getElem]; exact ⟨j, by omega, rfl⟩)
          simpa using this
        rw [h2]; rfl
      · have h1 : q ps[k] = false := by assumption
        go_roundw
        case rel => exact ⟨k + 1, by omega, by go_num, by have := Hfi.out; rw [List.take_succ_eq_append_getElem hlt, List.findIdx?_append, this]; simp [h1], (by repeat (first | with_reducible exact Below.refl _ _ | with_reducible assumption | with_reducible apply bl_drewN | with_reducible apply bl_drew | with_reducible apply bl_alloc | (with_reducible refine bl_set ?_ (by first | (simp; done) | (simp; omega)) _) | with_reducible refine bl_trans ?_ (by with_reducible assumption)))⟩
        case measure => simp [intOf]; omega
    · go_wp2
      go_ret
      refine ⟨?_, (by repeat (first | with_reducible exact Below.refl _ _ | with_reducible assumption | with_reducible apply bl_drewN | with_reducible apply bl_drew | with_reducible apply bl_alloc | (with_reducible refine bl_set ?_ (by first | (simp; done) | (simp; omega)) _) | with_reducible refine bl_trans ?_ (by with_reducible assumption)))⟩
      have h2 := Hfi.out
      rw [List.take_of_length_le (by omega)] at h2
      rw [h2]; rfl
end Go.Proofs.YtmeefmoblkiebaaGreat
/- Contracts for FreeCells: all cells of a board, its free cells. -/
namespace Go.Proofs.YtmeefmoblkiebaaGreat
open Go.RowKit
set_option linter.unusedVariables false
set_option linter.unusedSimpArgs false
set_option maxHeartbeats 400000
set_option maxRecDepth 100000
theorem vBd_bounds (l : Bd) (h : vBd l = true) : 1 ≤ l.wd ∧ l.wd ≤ 24 ∧ 1 ≤ l.hg ∧ l.hg ≤ 24 ∧ l.ps.length ≤ 200 := by
  simp only [vBd, inB, Bool.and_eq_true, decide_eq_true_eq] at h
  omega
end Go.Proofs.YtmeefmoblkiebaaGreat
/- Contracts: FirstWrong's reference: which fall comes first, the fall that follows. -/
namespace Go.Proofs.YtmeefmoblkiebaaGreat
open Go.RowKit
set_option linter.unusedVariables false
set_option linter.unusedSimpArgs false
set_option maxHeartbeats 400000
set_option maxRecDepth 100000
theorem l01Near_any (b0 : Nat) (l : Bd) (i : Nat) (s : Int) (w : World) (h : BP w b0 l) (hn : l.ps.length ≤ 10000000) (hi : i < l.ps.length) (h5 : 0 ≤ s) (h6 : s ≤ 3) :
    Calls Tryz.prog 107 #[.pointer (some ⟨b0, 0, none⟩), .int .i64 i, .int .i64 s] w fun e w' => e = .returned (.int .i64 (fnd (nxt l.ps[i].at_ s) l.ps)) ∧ Below w.heap.size w w' := by
  have HB := Lib.hid h
  obtain ⟨hbl, sv, hbd, a, cap, rfl, hps⟩ := h
  unfold BdAt at hbd
  obtain ⟨b, off, rfl, hb2, hat⟩ := pcs_get hps hi
  unfold PcAt at hat
  have HN := Lib.hid (l01Next_any l.ps[i].at_ s h5 h6 w)
  have hat2 : l.ps[i].at_ = ⟨l.ps[i].x, l.ps[i].y⟩ := rfl
  go_enter Tryz.func107, Tryz.ntmps107
  go_wp2_with fail
  refine HN.out.mono ?_
  rintro e w1 ⟨rfl, hb1⟩
  go_wp2_with fail
  refine (l01Find_any b0 l (nxt l.ps[i].at_ s) _ (HB.out.step hb1) hn).mono ?_
  rintro e w2 ⟨rfl, hb3⟩
  go_wp2
  go_ret
  exact ⟨rfl, bl_trans hb1 hb3⟩
/-- Whether a hit comes before a fall. -/
def betterV (x : Ht) (o : Option Ht) : Bool := match o with | none => true | some m => ltH x m
theorem l02Better_any (t s by_ : Int) (b off : Nat) (o : Option Ht) (w : World) (h : FaAt w b off (faOf o)) (ho : ∀ m, o = some m → 0 ≤ m.1 ∧ I8 m.2.1) :
    Calls Tryz.prog 106 #[.int .i64 t, .int .i64 s, .int .i64 by_, .pointer (some ⟨b, off, none⟩)] w fun e w' => e = .returned (.bool (betterV (t, s, by_) o)) ∧ w = w' := by
  unfold FaAt at h
  cases o with
  | none =>
    simp only [faOf] at h
    go_enter Tryz.func106, Tryz.ntmps106
    go_wp2
    go_ret
    exact ⟨rfl, rfl⟩
  | some m =>
    obtain ⟨m1, m2, m3⟩ := m
    obtain ⟨h1, ⟨h2, h3⟩⟩ := ho _ rfl
    simp only at h1 h2 h3
    have s1 := wrap_i8 h2 h3
    simp only [faOf] at h
    have HV := Lib.hid (show betterV (t, s, by_) (some (m1, m2, m3)) = ltH (t, s, by_) (m1, m2, m3) from rfl)
    have HL := Lib.hid (ltH_iff (t, s, by_) (m1, m2, m3))
    simp only at HL
    have a1 : decide (m1 < 0) = false := decide_eq_false (by omega)
    rcases Int.lt_trichotomy t m1 with g1 | g1 | g1
    · have HT := Lib.hid (HL.out.2 (.inl g1))
      have a2 : (t != m1) = true := by simp; omega
      have a3 : decide (t < m1) = true := decide_eq_true g1
      clear g1
      go_enter Tryz.func106, Tryz.ntmps106
      go_wp2
      go_ret
      exact ⟨by rw [HV.out, HT.out]; rfl, rfl⟩
    · have G1 := Lib.hid g1
      have a2 : (t != m1) = false := by simp [g1]
      clear g1
      rcases Int.lt_trichotomy s m2 with g2 | g2 | g2
      · have HT := Lib.hid (HL.out.2 (.inr ⟨G1.out, .inl g2⟩))
        have a4 : (s != m2) = true := by simp; omega
        have a5 : decide (s < m2) = true := decide_eq_true g2
        clear g2
        go_enter Tryz.func106, Tryz.ntmps106
        go_wp2
        go_ret
        exact ⟨by rw [HV.out, HT.out]; rfl, rfl⟩
      · have HT := Lib.hid (show ltH (t, s, by_) (m1, m2, m3) = decide (by_ < m3) by
          rw [Bool.eq_iff_iff, decide_eq_true_eq]
          have := G1.out
          constructor
          · intro h; have := HL.out.1 h; omega
          · intro h; exact HL.out.2 (.inr ⟨G1.out, .inr ⟨g2, h⟩⟩))
        have a4 : (s != m2) = false := by simp [g2]
        clear g2
        go_enter Tryz.func106, Tryz.ntmps106
        go_wp2
        go_ret
        exact ⟨by rw [HV.out, HT.out]; rfl, rfl⟩
      · have HT := Lib.hid (show ltH (t, s, by_) (m1, m2, m3) = false by rw [Bool.eq_false_iff]; intro h; have := HL.out.1 h; have := G1.out; omega)
        have a4 : (s != m2) = true := by simp; omega
        have a5 : decide (s < m2) = false := decide_eq_false (by omega)
        clear g2
        go_enter Tryz.func106, Tryz.ntmps106
        go_wp2
        go_ret
        exact ⟨by rw [HV.out, HT.out]; rfl, rfl⟩
    · have HT := Lib.hid (show ltH (t, s, by_) (m1, m2, m3) = false by rw [Bool.eq_false_iff]; intro h; have := HL.out.1 h; omega)
      have a2 : (t != m1) = true := by simp; omega
      have a3 : decide (t < m1) = false := decide_eq_false (by omega)
      clear g1
      go_enter Tryz.func106, Tryz.ntmps106
      go_wp2
      go_ret
      exact ⟨by rw [HV.out, HT.out]; rfl, rfl⟩
end Go.Proofs.YtmeefmoblkiebaaGreat
/- Contracts: the reference's fall that follows. -/
namespace Go.Proofs.YtmeefmoblkiebaaGreat
open Go.RowKit
set_option linter.unusedVariables false
set_option linter.unusedSimpArgs false
set_option maxHeartbeats 400000
set_option maxRecDepth 100000
theorem stepH_yes (o : Option Ht) (x : Ht) (h : betterV x o = true) : stepH o x = some x := by
  unfold betterV at h
  unfold stepH
  cases o with
  | none => rfl
  | some m => simp only at h ⊢; rw [if_pos h]
theorem stepH_no (o : Option Ht) (x : Ht) (h : betterV x o = false) : stepH o x = o := by
  unfold betterV at h
  unfold stepH
  cases o with
  | none => cases h
  | some m => simp only at h ⊢; rw [if_neg (by rw [h]; decide)]
/-- What pushes and neighbours so far give. -/
def dueL (ps : List Pc) (pl : List Pu) (fs : List Fa) (i m : Nat) : List Ht := (candP ps pl i ++ candN ps fs i m).filter (canH ps i)
theorem dueL_push (ps : List Pc) (pl : List Pu) (fs : List Fa) (i : Nat) (p : Pu) : dueL ps (pl ++ [p]) fs i 0 = dueL ps pl fs i 0 ++ (if (⟨p.x, p.y⟩ : Ce) = (ps.getD i default).at_ then (if 0 ≤ hitsV (ps.getD i default).k (ps.getD i default).t p.s then [(p.t, p.s, -1)] else []) else []) := by
  unfold dueL
  rw [candP_snoc]
  have e0 : candN ps fs i 0 = [] := rfl
  rw [e0, List.append_nil, List.append_nil, List.filter_append]
  congr 1
  by_cases h : (⟨p.x, p.y⟩ : Ce) = (ps.getD i default).at_
  · rw [if_pos h, if_pos h]
    unfold canH
    by_cases h2 : 0 ≤ hitsV (ps.getD i default).k (ps.getD i default).t p.s
    · rw [if_pos h2, List.filter_cons, if_pos (decide_eq_true h2)]; rfl
    · rw [if_neg h2, List.filter_cons, if_neg (by rw [decide_eq_false h2]; decide)]; rfl
  · rw [if_neg h, if_neg h]; rfl
theorem vBd_piece2 (l : Bd) (h : vBd l = true) (k : Nat) (hk : k < l.ps.length) : 0 ≤ l.ps[k].k ∧ l.ps[k].k ≤ 5 ∧ 0 ≤ l.ps[k].t ∧ l.ps[k].t ≤ 3 ∧ 1 ≤ l.ps[k].d ∧ l.ps[k].d ≤ 9 := by
  unfold vBd at h
  simp only [Bool.and_eq_true] at h
  have := h.1.2
  rw [List.all_eq_true] at this
  have h5 := this _ (List.getElem_mem hk)
  simp only [Bool.and_eq_true] at h5
  have h6 := h5.1
  unfold vPc inB at h6
  simp only [Bool.and_eq_true, decide_eq_true_eq] at h6
  omega
theorem fnd_lt (c : Ce) (ps : List Pc) (h : 0 ≤ fnd c ps) : (fnd c ps).toNat < ps.length := by
  unfold fnd at *
  cases hf : ps.findIdx? (fun p => decide (p.at_ = c)) with
  | none => rw [hf] at h; simp at h
  | some k =>
    rw [List.findIdx?_eq_some_iff_getElem] at hf
    obtain ⟨g1, -, -⟩ := hf
    simpa using g1
theorem getD_pc (ps : List Pc) (k : Nat) (h : k < ps.length) : ps.getD k default = ps[k] := by rw [List.getD_eq_getElem?_getD, List.getElem?_eq_getElem h]; rfl
theorem getD_fa (ps : List Fa) (k : Nat) (h : k < ps.length) : ps.getD k default = ps[k] := by rw [List.getD_eq_getElem?_getD, List.getElem?_eq_getElem h]; rfl
theorem l02None_any (w : World) : Calls Tryz.prog 103 #[] w fun e w' => e = .returned (.agg #[.int .i64 (-1), .int .i8 0, .int .i64 (-1)]) ∧ Below w.heap.size w w' := by
  go_enter Tryz.func103, Tryz.ntmps103
  go_wp2
  first
    | (go_ret; exact ⟨rfl, (by repeat (first | with_reducible exact Below.refl _ _ | with_reducible assumption | with_reducible apply bl_drewN | with_reducible apply bl_drew | with_reducible apply bl_alloc | (with_reducible refine bl_set ?_ (by first | (simp; done) | (simp; omega)) _) | with_reducible refine bl_trans ?_ (by with_reducible assumption)))⟩)
    | (exact bodyPost_ret (v := .agg #[.int .i64 (-1), .int .i8 0, .int .i64 (-1)]) (by simp [results, Tryz.results103, go_sem]) rfl ⟨rfl, (by repeat (first | with_reducible exact Below.refl _ _ | with_reducible assumption | with_reducible apply bl_drewN | with_reducible apply bl_drew | with_reducible apply bl_alloc | (with_reducible refine bl_set ?_ (by first | (simp; done) | (simp; omega)) _) | with_reducible refine bl_trans ?_ (by with_reducible assumption)))⟩)
end Go.Proofs.YtmeefmoblkiebaaGreat
