/- Maps whose keys are cells of a board: look-ups and stores. -/
import Derived.Test.YtoldmgpdcenmhaaBase
import Derived.Maps.OwnOps
import Derived.DeepKeys3
namespace Go.Proofs.Ytoldmgpdcenmhaa
open Go.RowKit
set_option linter.unusedVariables false

/-- The type of a cell, and of its two numbers. -/
structure CeTy (P : Program) (k : TypeId) where
  e : TypeId
  hk : P.underlying k = some (.array 2 e)
  he : P.underlying e = some (.int .i8)
  hs : P.cellsOf e = 1
  hp : P.plainKey e = true

theorem equal_ce {P : Program} {k : TypeId} (h : CeTy P k) (c d : Ce) (w : World) : (Op.equal k c.val d.val).run P w = .ok (decide (c = d)) w := by
  obtain ⟨x, y⟩ := c
  obtain ⟨x', y'⟩ := d
  obtain ⟨i, hi⟩ := info_of_underlying h.he
  have h0 := run_equalIn_array w 9999 #[.int .i8 x, .int .i8 y] #[.int .i8 x', .int .i8 y'] h.hk hi
  have e1 : ∀ a b : Int, (Op.equalIn 9999 h.e (.int .i8 a) (.int .i8 b)).run P w = .ok (a == b) w := fun a b => run_equalIn_int w 9998 h.e .i8 .i8 a b h.he
  have e2 : ∀ (xs : Array Value) (off : Nat) (v : Value), xs[off]? = some v → (part h.e xs off).run P w = .ok v w := fun xs off v hx => run_part_plain w h.hp hx
  unfold Op.equal
  show (Op.equalIn (9999 + 1) k _ _).run P w = _
  rw [h0, h.hs]
  have r2 : List.range 2 = [0, 1] := rfl
  rw [r2]
  have p0 := e2 #[.int .i8 x, .int .i8 y] 0 (.int .i8 x) rfl
  have p1 := e2 #[.int .i8 x, .int .i8 y] 1 (.int .i8 y) rfl
  have p2 := e2 #[.int .i8 x', .int .i8 y'] 0 (.int .i8 x') rfl
  have p3 := e2 #[.int .i8 x', .int .i8 y'] 1 (.int .i8 y') rfl
  simp only [Op.eqItems, Sem.run_bind, Nat.zero_mul, Nat.one_mul, p0, p2, e1, Result.andThen_ok]
  by_cases h1 : x = x'
  · subst h1
    simp only [beq_self_eq_true, Bool.not_true, Bool.false_eq_true, if_false, Sem.run_bind, p1, p3, e1, Result.andThen_ok]
    by_cases h2 : y = y' <;> simp [h2]
  · simp [h1]

theorem check_ce {P : Program} {k : TypeId} (h : CeTy P k) (em : Bool) (c : Ce) (w : World) : (Instr.checkKey em 10000 k c.val).run P w = .ok () w := by
  obtain ⟨i, hi⟩ := info_of_underlying h.he
  have e2 : ∀ (xs : Array Value) (off : Nat) (v : Value), xs[off]? = some v → (part h.e xs off).run P w = .ok v w := fun xs off v hx => run_part_plain w h.hp hx
  have e1 : ∀ (n : Nat) (a : Int), (Instr.checkKey em (n + 1) h.e (.int .i8 a)).run P w = .ok () w := by
    intro n a
    simp [Instr.checkKey, run_underlying h.he]
  have p0 := e2 #[.int .i8 c.x, .int .i8 c.y] 0 (.int .i8 c.x) rfl
  have p1 := e2 #[.int .i8 c.x, .int .i8 c.y] 1 (.int .i8 c.y) rfl
  have key : ∀ n : Nat, (Instr.checkKey em (n + 2) k c.val).run P w = .ok () w := by
    intro n
    rw [Instr.checkKey]
    simp only [Sem.run_bind, run_underlying h.hk, Result.andThen_ok]
    have r2 : List.range' 0 2 = [0, 1] := rfl
    simp [r2, run_sizeOf w hi, h.hs, e1, p0, p1]
  exact key 9998
/-- Block m of w is a map from cells to values. -/
def MapAt (w : World) (m : Nat) (kv : List (Ce × Value)) : Prop :=
  ∃ es clock, w.heap[m]? = some (.map es clock) ∧ es.toList.map (fun e => (e.key, e.val)) = kv.map (fun p => (p.1.val, p.2))

/-- What a look-up finds, with its place. -/
def mfind (c : Ce) : List (Ce × Value) → Nat → Option (Nat × Value)
  | [], _ => none
  | p :: r, i => if c = p.1 then some (i, p.2) else mfind c r (i + 1)

theorem asking_ce {P : Program} {k : TypeId} (h : CeTy P k) (c : Ce) (w : World) : ∀ (es : List MapEntry) (kv : List (Ce × Value)) (i : Nat), es.map (fun e => (e.key, e.val)) = kv.map (fun p => (p.1.val, p.2)) →
    (Instr.findAsking k c.val es i).run P w = .ok (mfind c kv i) w := by
  intro es
  induction es with
  | nil =>
    intro kv i he
    cases kv with
    | nil => rfl
    | cons p r => simp at he
  | cons e es ih =>
    intro kv i he
    cases kv with
    | nil => simp at he
    | cons p r =>
      simp only [List.map_cons, List.cons.injEq, Prod.mk.injEq] at he
      obtain ⟨⟨hk, hv⟩, hr⟩ := he
      simp only [Instr.findAsking, Sem.run_bind, hk, equal_ce h, Result.andThen_ok, mfind]
      by_cases hc : c = p.1
      · simp [hc, hv]
      · simp only [hc, decide_false, if_false, Bool.false_eq_true]
        exact ih r (i + 1) hr

theorem key_ce {P : Program} {k : TypeId} (h : CeTy P k) (c : Ce) (w : World) (es : List MapEntry) (kv : List (Ce × Value)) (he : es.map (fun e => (e.key, e.val)) = kv.map (fun p => (p.1.val, p.2))) :
    (Instr.findKey k c.val es).run P w = .ok (mfind c kv 0) w := by
  unfold Instr.findKey
  simp only [Sem.run_bind, run_underlying h.hk, Result.andThen_ok]
  cases es with
  | nil =>
    cases kv with
    | nil => simp [Instr.findNow, mfind]
    | cons p r => simp at he
  | cons e es =>
    have : Instr.findNow (.array 2 h.e) c.val (e :: es) 0 = none := by
      have hk : ∃ p r, kv = p :: r := by
        cases kv with
        | nil => simp at he
        | cons p r => exact ⟨p, r, rfl⟩
      obtain ⟨p, r, rfl⟩ := hk
      simp only [List.map_cons, List.cons.injEq, Prod.mk.injEq] at he
      simp [Instr.findNow, Instr.sameNow]
    rw [this]
    exact asking_ce h c w (e :: es) kv 0 he

/-- 'm[c]', 'v, ok := m[c]'. -/
theorem run_lookup_ce {P : Program} {k t et : TypeId} (h : CeTy P k) (ht : P.underlying t = some (.map k et)) (z : Value) (hz : ∀ w, (zeroValue et).run P w = .ok z w) {w : World} {m : Nat} {kv : List (Ce × Value)} (hm : MapAt w m kv) (c : Ce) (ok : Bool) :
    (Instr.lookup t (.map (some m)) c.val ok).run P w = .ok (if ok then .tuple #[((mfind c kv 0).map (·.2)).getD z, .bool (mfind c kv 0).isSome] else ((mfind c kv 0).map (·.2)).getD z) w := by
  obtain ⟨es, clock, hb, he⟩ := hm
  have hg : (getObj m).run P w = .ok (.map es clock) w := by simp [getObj, Sem.run, hb]
  unfold Instr.lookup
  simp only [Sem.run_bind, run_underlying ht, Result.andThen_ok, hg, Sem.run_pure, check_ce h, key_ce h c w es.toList kv he]
  cases hf : mfind c kv 0 with
  | none => cases ok <;> simp [hz]
  | some p => cases ok <;> simp

def mget (c : Ce) (kv : List (Ce × Value)) : Option Value := (mfind c kv 0).map (·.2)
def mput (c : Ce) (v : Value) : List (Ce × Value) → List (Ce × Value)
  | [] => [(c, v)]
  | p :: r => if c = p.1 then (c, v) :: r else p :: mput c v r

theorem mfind_off (c : Ce) : ∀ (kv : List (Ce × Value)) (i j : Nat), mfind c kv (i + j) = (mfind c kv i).map (fun p => (p.1 + j, p.2)) := by
  intro kv
  induction kv with
  | nil => intro i j; rfl
  | cons p r ih =>
    intro i j
    simp only [mfind]
    by_cases h : c = p.1
    · simp [h]
    · simp only [h, if_false]; rw [show i + j + 1 = (i + 1) + j by omega]; exact ih (i + 1) j

theorem mget_cons (c : Ce) (p : Ce × Value) (r : List (Ce × Value)) : mget c (p :: r) = if c = p.1 then some p.2 else mget c r := by
  unfold mget
  simp only [mfind]
  by_cases h : c = p.1
  · simp [h]
  · simp only [h, if_false]; rw [mfind_off c r 0 1]; cases mfind c r 0 <;> rfl

theorem mget_nil (c : Ce) : mget c [] = none := rfl

theorem mget_put (c d : Ce) (v : Value) : ∀ kv : List (Ce × Value), mget d (mput c v kv) = if d = c then some v else mget d kv := by
  intro kv
  induction kv with
  | nil => simp [mput, mget_cons, mget_nil]
  | cons p r ih =>
    simp only [mput]
    by_cases h : c = p.1
    · rw [if_pos h, mget_cons, mget_cons]
      by_cases h2 : d = c
      · simp [h2]
      · simp only [h2, if_false]; rw [if_neg (by rw [← h]; exact h2)]
    · rw [if_neg h, mget_cons, mget_cons, ih]
      by_cases h2 : d = p.1
      · rw [if_pos h2, if_pos h2, if_neg (by rw [h2]; exact fun e => h e.symm)]
      · rw [if_neg h2, if_neg h2]

theorem mput_some (c : Ce) (v : Value) : ∀ (kv : List (Ce × Value)) (i : Nat) (u : Value), mfind c kv 0 = some (i, u) → mput c v kv = kv.modify i (fun p => (p.1, v)) ∧ ∃ p, kv[i]? = some p ∧ p.1 = c := by
  intro kv
  induction kv with
  | nil => intro i u h; simp [mfind] at h
  | cons p r ih =>
    intro i u h
    simp only [mfind] at h
    by_cases hc : c = p.1
    · simp only [hc, if_true, Option.some.injEq, Prod.mk.injEq] at h
      obtain ⟨rfl, rfl⟩ := h
      exact ⟨by simp [mput, hc], p, rfl, hc.symm⟩
    · rw [if_neg hc, mfind_off c r 0 1] at h
      cases hm : mfind c r 0 with
      | none => simp [hm] at h
      | some q =>
        simp only [hm, Option.map_some, Option.some.injEq, Prod.mk.injEq] at h
        obtain ⟨rfl, rfl⟩ := h
        obtain ⟨h1, h2⟩ := ih q.1 q.2 hm
        exact ⟨by simp [mput, hc, h1], by simpa using h2⟩

theorem mput_none (c : Ce) (v : Value) : ∀ (kv : List (Ce × Value)), mfind c kv 0 = none → mput c v kv = kv ++ [(c, v)] := by
  intro kv
  induction kv with
  | nil => intro _; rfl
  | cons p r ih =>
    intro h
    simp only [mfind] at h
    by_cases hc : c = p.1
    · simp [hc] at h
    · rw [if_neg hc, mfind_off c r 0 1] at h
      simp only [mput, hc, if_false, List.cons_append]
      rw [ih (by cases hm : mfind c r 0 <;> simp_all)]

theorem same_ce (c : Ce) : Instr.sameBits 10000 c.val c.val = true := by
  have : ∀ n, Instr.sameBits (n + 2) c.val c.val = true := by intro n; simp [Instr.sameBits]
  exact this 9998

/-- 'm[c] = v'. -/
theorem run_update_ce {P : Program} {k t et : TypeId} (h : CeTy P k) (ht : P.underlying t = some (.map k et)) {w : World} {m : Nat} {kv : List (Ce × Value)} (hm : MapAt w m kv) (c : Ce) (v : Value) :
    ∃ w', (Instr.mapUpdate t (.map (some m)) c.val v).run P w = .ok () w' ∧ MapAt w' m (mput c v kv) ∧ w.grownBy w' (some m) ∧ w'.heap.size = w.heap.size := by
  obtain ⟨es, clock, hb, he⟩ := hm
  have hlt : m < w.heap.size := (Array.getElem?_eq_some_iff.1 hb).1
  have hg : (getObj m).run P w = .ok (.map es clock) w := by simp [getObj, Sem.run, hb]
  have hs : ∀ o, (setObj m o).run P w = .ok () { w with heap := w.heap.setIfInBounds m o } := by intro o; simp [setObj, Sem.run, hb]
  have hgr : ∀ o, w.grownBy { w with heap := w.heap.setIfInBounds m o } (some m) := fun o =>
    ⟨rfl, rfl, rfl, by simp, fun j _ hj => by
      have : m ≠ j := fun e => hj (by rw [e])
      simp [this]⟩
  unfold Instr.mapUpdate
  simp only [Sem.run_bind, run_underlying ht, Result.andThen_ok, hg, check_ce h, key_ce h c w es.toList kv he]
  cases hf : mfind c kv 0 with
  | none =>
    refine ⟨{ w with heap := w.heap.setIfInBounds m (.map (es.push ⟨c.val, v, clock⟩) (clock + 1)) }, by simp [hs], ?_, hgr _, by simp⟩
    refine ⟨es.push ⟨c.val, v, clock⟩, clock + 1, by simp [hlt], ?_⟩
    rw [mput_none c v kv hf]
    simp [he]
  | some q =>
    obtain ⟨i, u⟩ := q
    obtain ⟨h1, p, h2, h3⟩ := mput_some c v kv i u hf
    have hl : es.toList.length = kv.length := by have := congrArg List.length he; simpa using this
    have hi : i < kv.length := (List.getElem?_eq_some_iff.1 h2).1
    have hie : i < es.size := by rw [← hl] at hi; simpa using hi
    have hkey : es[i]? = some es[i] := Array.getElem?_eq_getElem hie
    have hk2 : es[i].key = c.val := by
      have := congrArg (fun l => l[i]?) he
      simp only [List.getElem?_map, h2] at this
      rw [show es.toList[i]? = some es[i] by simp] at this
      simp only [Option.map_some, Option.some.injEq, Prod.mk.injEq] at this
      rw [this.1, h3]
    refine ⟨{ w with heap := w.heap.setIfInBounds m (.map (es.modify i fun e => { e with key := c.val, val := v }) clock) }, ?_, ?_, hgr _, by simp⟩
    · simp [hkey, hk2, Instr.keyThatStays, same_ce, hs]
    · refine ⟨es.modify i fun e => { e with key := c.val, val := v }, clock, by simp [hlt], ?_⟩
      rw [h1]
      apply List.ext_getElem?
      intro j
      have hej := congrArg (fun l => l[j]?) he
      simp only [List.getElem?_map] at hej
      simp only [Array.toList_modify, List.getElem?_map, List.getElem?_modify]
      by_cases hij : i = j
      · subst hij
        rw [h2] at hej ⊢
        rw [show es.toList[i]? = some es[i] by simp] at hej ⊢
        simp [h3]
      · simp only [hij, if_false]
        simpa using hej

theorem map_below {B : Nat} {w w' : World} {m : Nat} {kv : List (Ce × Value)} (hm : MapAt w m kv) (hb : Below B w w') (h : m < B) : MapAt w' m kv := by
  obtain ⟨es, clock, h1, h2⟩ := hm
  exact ⟨es, clock, by rw [hb.block m h]; exact h1, h2⟩
theorem map_new (w : World) : MapAt (w.alloc (.map #[] 0)) w.heap.size [] := ⟨#[], 0, heap_alloc_new w _, by simp⟩
theorem map_alloc {w : World} {m : Nat} {kv : List (Ce × Value)} (hm : MapAt w m kv) (o : Obj) : MapAt (w.alloc o) m kv := by
  obtain ⟨es, clock, h1, h2⟩ := hm
  exact ⟨es, clock, by rw [Below.heap_alloc w o m (Array.getElem?_eq_some_iff.1 h1).1]; exact h1, h2⟩
theorem map_lt {w : World} {m : Nat} {kv : List (Ce × Value)} (hm : MapAt w m kv) : m < w.heap.size := by
  obtain ⟨es, clock, h1, h2⟩ := hm
  exact (Array.getElem?_eq_some_iff.1 h1).1

/-- 'm[c] = v' for the walk. -/
theorem wpList_update_ce {P : Program} (w : World) {ops : Array Oper} {rest : List Oper} {o : Oper} {a : Act} {Q : Exit → Act → World → Prop}
    (hg : o.guard = none) (m x v : Operand) (t : TypeId) (hop : o.op = Op.mapUpdate t m x v) {k et : TypeId} (h : CeTy P k) (ht : P.underlying t = some (.map k et)) (b : Nat) (kv : List (Ce × Value))
    (hm : a.eval m = .map (some b)) (hown : MapAt w b kv) (c : Ce) (val : Value) (hx : a.eval x = c.val) (hv : a.eval v = val)
    (hK : ∀ w', MapAt w' b (mput c val kv) → w.grownBy w' (some b) → w'.heap.size = w.heap.size → wpList P ops Q rest (a.put o.dst undef) w') :
    wpList P ops Q (o :: rest) a w := by
  refine wpList_plain hg fun K' hK' => ?_
  obtain ⟨w', hrun, r1, r2, r3⟩ := run_update_ce h ht hown c val
  unfold Oper.wp
  simp [execOp, hop, hm, hx, hv, hrun, Result.andThen]
  exact hK' _ _ (hK w' r1 r2 r3)

/-- A map of marks: what has been seen. -/
def marks (l : List Ce) : List (Ce × Value) := l.map fun c => (c, Value.bool true)

theorem mget_marks (c : Ce) : ∀ l : List Ce, ((mfind c (marks l) 0).map (·.2)).getD (.bool false) = .bool (decide (c ∈ l)) := by
  intro l
  show (mget c (marks l)).getD _ = _
  induction l with
  | nil => rfl
  | cons d l ih =>
    rw [marks, List.map_cons, mget_cons]
    by_cases h : c = d
    · simp [h]
    · rw [if_neg h]; rw [marks] at ih; rw [ih]; simp [h]

theorem mput_marks (c : Ce) : ∀ l : List Ce, mput c (.bool true) (marks l) = marks (if c ∈ l then l else l ++ [c]) := by
  intro l
  induction l with
  | nil => simp [marks, mput]
  | cons d l ih =>
    simp only [marks, List.map_cons, mput] at ih ⊢
    by_cases h : c = d
    · simp [h]
    · rw [if_neg h, ih]
      by_cases h2 : c ∈ l <;> simp [h, h2]

end Go.Proofs.Ytoldmgpdcenmhaa
