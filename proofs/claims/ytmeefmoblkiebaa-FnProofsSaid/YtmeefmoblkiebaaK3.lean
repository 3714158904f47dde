import Derived.Test.YtmeefmoblkiebaaK2
import Derived.Deep.RegionHeld3
/- A region that draws its order and ends in stores: loads may be taken first where nobody writes their cells AHEAD OF THE STORES. -/
namespace Go.Proofs.Ytmeefmoblkiebaa
open Go.RowKit
set_option linter.unusedVariables false
set_option linter.unusedSimpArgs false
set_option maxHeartbeats 400000
set_option maxRecDepth 100000
section
variable {P : Program} {ops : Array Oper} {Q : Exit → Act → World → Prop} {md : Region.Mode} {S : World → Prop} {z n : Nat}
/-- Whatever order is picked, and S holds behind each operation from number z to n. -/
def wpAnyT (P : Program) (md : Region.Mode) (ops : Array Oper) (Q : Exit → Act → World → Prop) (S : World → Prop) (z n : Nat) : Nat → Array Bool → Act → World → Prop
  | 0, listed, a, w => Region.ready md ops listed = [] ∧ Q .normal a w
  | fuel + 1, listed, a, w =>
    (Region.ready md ops listed = [] → Q .normal a w) ∧
    ∀ i ∈ Region.ready md ops listed, wpOp P ops Q i (fun a' w' => (z ≤ i → i < n → S w') ∧ wpAnyT P md ops Q S z n fuel (listed.setIfInBounds i true) a' w') a w
theorem wpAny_of_T : ∀ (fuel : Nat) (listed : Array Bool) (a : Act) (w : World), wpAnyT P md ops Q S z n fuel listed a w → wpAny P md ops Q fuel listed a w
  | 0, _, _, _, h => h
  | fuel + 1, _, _, _, h => ⟨h.1, fun i hi => wpOp_mono (fun a' w' h' => wpAny_of_T fuel _ a' w' h'.2) (h.2 i hi)⟩
/-- Number j cannot come up ahead of number i. -/
def mustB (md : Region.Mode) (ops : Array Oper) : Nat → Nat → Nat → Bool
  | 0, _, _ => false
  | f + 1, i, j => match ops[j]? with
    | some oj => oj.after.any fun e => Region.binds md e && (e.on == i || mustB md ops f i e.on)
    | none => false
def Closed (md : Region.Mode) (ops : Array Oper) (listed : Array Bool) : Prop :=
  ∀ j oj, ops[j]? = some oj → listed.getD j false = true → ∀ e ∈ oj.after, Region.binds md e = true → listed.getD e.on false = true
theorem must_listed {listed : Array Bool} (hc : Closed md ops listed) : ∀ (f i j : Nat) (oj : Oper), ops[j]? = some oj → (∀ e ∈ oj.after, Region.binds md e = true → listed.getD e.on false = true) → mustB md ops f i j = true → listed.getD i false = true := by
  intro f
  induction f with
  | zero => intro i j oj hj he h; cases h
  | succ f ih =>
    intro i j oj hj he h
    unfold mustB at h
    rw [hj] at h
    simp only at h
    obtain ⟨e, hmem, hb⟩ := Array.any_eq_true'.1 h
    simp only [Bool.and_eq_true, Bool.or_eq_true, beq_iff_eq] at hb
    obtain ⟨hb1, hb2⟩ := hb
    have hl := he e hmem hb1
    rcases hb2 with rfl | hb2
    · exact hl
    · cases hq : ops[e.on]? with
      | none =>
        cases f with
        | zero => cases hb2
        | succ f => unfold mustB at hb2; rw [hq] at hb2; cases hb2
      | some oq => exact ih i e.on oq hq (hc e.on oq hq hl) hb2
theorem Closed.set {listed : Array Bool} (hc : Closed md ops listed) {i : Nat} (hi : i ∈ Region.ready md ops listed) : Closed md ops (listed.setIfInBounds i true) := by
  obtain ⟨_, oi, hoi, hall⟩ := mem_ready.1 hi
  intro j oj hj hl e he hb
  by_cases hij : i = j
  · subst hij
    have : oj = oi := Option.some.inj (hj.symm.trans hoi)
    subst this
    exact getD_set_true (hall e he hb)
  · rw [getD_set_ne false hij] at hl
    exact getD_set_true (hc j oj hj hl e he hb)
theorem wpAnyT_first {i : Nat} {oi : Oper} {v : Value} {F : Nat} (hi : ops[i]? = some oi) (hsel : ∀ (j : Nat) (o : Oper) cs b, ops[j]? = some o → o.op ≠ .select cs b)
    (hQ : ∀ c a w, Q (.panic c) (a.put oi.dst v) w → Q (.panic c) a w) (htail : ∀ j, n ≤ j → j < ops.size → mustB md ops F i j = true) :
    ∀ (fuel : Nat) (listed : Array Bool) (a : Act) (w : World), Closed md ops listed →
      (∀ j oj, ops[j]? = some oj → j ≠ i → listed.getD j true = false → (∀ e ∈ oj.after, Region.binds md e = true → e.on ≠ i) → oi.apart ops oj = true) →
      (∀ j, j < z → listed.getD j false = true) →
      i ∈ Region.ready md ops listed → YieldsIf P ops S oi v a → S w →
      wpAnyT P md ops Q S z n fuel (listed.setIfInBounds i true) (a.put oi.dst v) w → wpAnyT P md ops Q S z n (fuel + 1) listed a w := by
  intro fuel
  induction fuel with
  | zero =>
    intro listed a w _ _ _ hr hy hS H
    refine ⟨fun h => (by rw [h] at hr; cases hr), fun j hj => ?_⟩
    by_cases hji : j = i
    · subst hji; exact hy.wpOp hi hS ⟨fun _ _ => hS, H⟩
    · have := ready_mono hj hji
      rw [H.1] at this
      cases this
  | succ fuel ih =>
    intro listed a w hcl hfree hz hr hy hS H
    refine ⟨fun h => (by rw [h] at hr; cases hr), fun j hj => ?_⟩
    by_cases hji : j = i
    · subst hji; exact hy.wpOp hi hS ⟨fun _ _ => hS, H⟩
    · have h1 := H.2 j (ready_mono hj hji)
      obtain ⟨hjun, oj, hoj, hall⟩ := mem_ready.1 hj
      have hiun := (mem_ready.1 hr).1
      have hjn : j < n := by
        rcases Nat.lt_or_ge j n with h | h
        · exact h
        · have := must_listed hcl F i j oj hoj hall (htail j h (Array.getElem?_eq_some_iff.1 hoj).1)
          rcases Nat.lt_or_ge i listed.size with h' | h'
          · simp [h'] at hiun this; rw [hiun] at this; cases this
          · simp [Array.getElem?_eq_none h'] at hiun
      have hjz : z ≤ j := by
        rcases Nat.lt_or_ge j z with h | h
        · have h3 := hz j h
          rcases Nat.lt_or_ge j listed.size with h' | h'
          · simp [h'] at hjun h3; rw [hjun] at h3; cases h3
          · simp [Array.getElem?_eq_none h'] at h3
        · exact h
      have hnot : ∀ e ∈ oj.after, Region.binds md e = true → e.on ≠ i := fun e he hb heq => by
        have h1 := hall e he hb
        rw [heq] at h1
        rcases Nat.lt_or_ge i listed.size with h' | h'
        · simp [h'] at hiun h1; rw [hiun] at h1; cases h1
        · simp [Array.getElem?_eq_none h'] at h1
      have h2 := wpOp_putIf hoj (hfree j oj hoj hji hjun hnot) (fun cs b => hsel i oi cs b hi) (fun cs b => hsel j oj cs b hoj) hQ hy h1
      have hfree' : ∀ k ok, ops[k]? = some ok → k ≠ i → (listed.setIfInBounds j true).getD k true = false →
          (∀ e ∈ ok.after, Region.binds md e = true → e.on ≠ i) → oi.apart ops ok = true := fun k ok hk hki hun hno => by
        refine hfree k ok hk hki ?_ hno
        by_cases hjk : j = k
        · subst hjk; exact hjun
        · rw [getD_set_ne true hjk] at hun; exact hun
      refine wpOp_mono (fun a' w' h3 => ⟨h3.2.1, ih (listed.setIfInBounds j true) a' w' (hcl.set hj) hfree' (fun k hk => getD_set_true (hz k hk)) (ready_mono hr (Ne.symm hji)) h3.1 (h3.2.1 hjz hjn) ?_⟩) h2
      rw [Array.setIfInBounds_comm _ _ hji]
      exact h3.2.2
theorem wpAnyT_firstP {i : Nat} {oi : Oper} {v : Value} (hi : ops[i]? = some oi) (hiz : i < z) (hsel : ∀ (j : Nat) (o : Oper) cs b, ops[j]? = some o → o.op ≠ .select cs b)
    (hQ : ∀ c a w, Q (.panic c) (a.put oi.dst v) w → Q (.panic c) a w) :
    ∀ (fuel : Nat) (listed : Array Bool) (a : Act) (w : World),
      (∀ j oj, ops[j]? = some oj → j ≠ i → listed.getD j true = false → (∀ e ∈ oj.after, Region.binds md e = true → e.on ≠ i) → oi.apart ops oj = true) →
      i ∈ Region.ready md ops listed → YieldsIf P ops (fun _ => True) oi v a →
      wpAnyT P md ops Q S z n fuel (listed.setIfInBounds i true) (a.put oi.dst v) w → wpAnyT P md ops Q S z n (fuel + 1) listed a w := by
  intro fuel
  induction fuel with
  | zero =>
    intro listed a w _ hr hy H
    refine ⟨fun h => (by rw [h] at hr; cases hr), fun j hj => ?_⟩
    by_cases hji : j = i
    · subst hji; exact hy.wpOp hi trivial ⟨fun h => absurd h (by omega), H⟩
    · have := ready_mono hj hji
      rw [H.1] at this
      cases this
  | succ fuel ih =>
    intro listed a w hfree hr hy H
    refine ⟨fun h => (by rw [h] at hr; cases hr), fun j hj => ?_⟩
    by_cases hji : j = i
    · subst hji; exact hy.wpOp hi trivial ⟨fun h => absurd h (by omega), H⟩
    · have h1 := H.2 j (ready_mono hj hji)
      obtain ⟨hjun, oj, hoj, hall⟩ := mem_ready.1 hj
      have hiun := (mem_ready.1 hr).1
      have hnot : ∀ e ∈ oj.after, Region.binds md e = true → e.on ≠ i := fun e he hb heq => by
        have h1 := hall e he hb
        rw [heq] at h1
        rcases Nat.lt_or_ge i listed.size with h' | h'
        · simp [h'] at hiun h1; rw [hiun] at h1; cases h1
        · simp [Array.getElem?_eq_none h'] at h1
      have h2 := wpOp_putIf hoj (hfree j oj hoj hji hjun hnot) (fun cs b => hsel i oi cs b hi) (fun cs b => hsel j oj cs b hoj) hQ hy h1
      have hfree' : ∀ k ok, ops[k]? = some ok → k ≠ i → (listed.setIfInBounds j true).getD k true = false →
          (∀ e ∈ ok.after, Region.binds md e = true → e.on ≠ i) → oi.apart ops ok = true := fun k ok hk hki hun hno => by
        refine hfree k ok hk hki ?_ hno
        by_cases hjk : j = k
        · subst hjk; exact hjun
        · rw [getD_set_ne true hjk] at hun; exact hun
      refine wpOp_mono (fun a' w' h3 => ⟨h3.2.1, ih (listed.setIfInBounds j true) a' w' hfree' (ready_mono hr (Ne.symm hji)) h3.1 ?_⟩) h2
      rw [Array.setIfInBounds_comm _ _ hji]
      exact h3.2.2
def closedB (md : Region.Mode) (ops : Array Oper) (listed : Array Bool) : Bool :=
  (List.range ops.size).all fun j => !listed.getD j false || match ops[j]? with
    | some oj => oj.after.all fun e => !Region.binds md e || listed.getD e.on false
    | none => true
theorem closedB_spec {listed : Array Bool} (h : closedB md ops listed = true) : Closed md ops listed := by
  intro j oj hj hl e he hb
  have hjs : j < ops.size := (Array.getElem?_eq_some_iff.1 hj).1
  have h1 := List.all_eq_true.1 h j (List.mem_range.2 hjs)
  rw [hl, hj] at h1
  simp only [Bool.not_true, Bool.false_or] at h1
  have h2 := Array.all_eq_true'.1 h1 e he
  rw [hb] at h2
  simpa using h2
def tailB (md : Region.Mode) (ops : Array Oper) (F n i : Nat) : Bool := (List.range ops.size).all fun j => decide (j < n) || mustB md ops F i j
theorem tailB_spec {F i : Nat} (h : tailB md ops F n i = true) : ∀ j, n ≤ j → j < ops.size → mustB md ops F i j = true := by
  intro j h1 h2
  have := List.all_eq_true.1 h j (List.mem_range.2 h2)
  simp only [Bool.or_eq_true, decide_eq_true_eq] at this
  rcases this with h' | h'
  · omega
  · exact h'
theorem wpAnyT_take (F i : Nat) {oi : Oper} {v : Value} {fuel : Nat} {listed : Array Bool} {a : Act} {w : World} (hi : ops[i]? = some oi)
    (hs : Region.noSelect ops = true) (hf : Region.free md ops listed i = true) (hr : (Region.ready md ops listed).contains i = true) (hcl : closedB md ops listed = true) (ht : tailB md ops F n i = true) (hz : ((List.range z).all fun j => listed.getD j false) = true)
    (hQ : ∀ c a w, Q (.panic c) (a.put oi.dst v) w → Q (.panic c) a w) (hy : YieldsIf P ops S oi v a) (hS : S w)
    (h : wpAnyT P md ops Q S z n fuel (listed.setIfInBounds i true) (a.put oi.dst v) w) : wpAnyT P md ops Q S z n (fuel + 1) listed a w :=
  wpAnyT_first hi (Region.noSelect_spec hs) hQ (tailB_spec ht) fuel listed a w (closedB_spec hcl) (Region.free_spec hi hf) (fun j hj => List.all_eq_true.1 hz j (List.mem_range.2 hj)) (by simpa using hr) hy hS h
/-- What yields its value in whatever world, and is one of the first z. -/
theorem wpAnyT_takeP (i : Nat) {oi : Oper} {v : Value} {fuel : Nat} {listed : Array Bool} {a : Act} {w : World} (hi : ops[i]? = some oi) (hiz : i < z)
    (hs : Region.noSelect ops = true) (hf : Region.free md ops listed i = true) (hr : (Region.ready md ops listed).contains i = true)
    (hQ : ∀ c a w, Q (.panic c) (a.put oi.dst v) w → Q (.panic c) a w) (hy : YieldsIf P ops (fun _ => True) oi v a)
    (h : wpAnyT P md ops Q S z n fuel (listed.setIfInBounds i true) (a.put oi.dst v) w) : wpAnyT P md ops Q S z n (fuel + 1) listed a w :=
  wpAnyT_firstP hi hiz (Region.noSelect_spec hs) hQ fuel listed a w (Region.free_spec hi hf) (by simpa using hr) hy h
def AllReadyT (P : Program) (md : Region.Mode) (ops : Array Oper) (Q : Exit → Act → World → Prop) (S : World → Prop) (z n fuel : Nat) (listed : Array Bool) (a : Act) (w : World) (rs : List Nat) : Prop :=
  ∀ i ∈ rs, wpOp P ops Q i (fun a' w' => (z ≤ i → i < n → S w') ∧ wpAnyT P md ops Q S z n fuel (listed.setIfInBounds i true) a' w') a w
theorem AllReadyT.nil {fuel : Nat} {listed : Array Bool} {a : Act} {w : World} : AllReadyT P md ops Q S z n fuel listed a w [] := fun _ h => by cases h
theorem AllReadyT.cons {fuel : Nat} {listed : Array Bool} {a : Act} {w : World} {i : Nat} {o : Oper} {rs : List Nat} (ho : ops[i]? = some o)
    (h : ∀ K' : Act → World → Prop, Shut (∀ a w, (z ≤ i → i < n → S w) → ((z ≤ i → i < n → S w) → wpAnyT P md ops Q S z n fuel (listed.setIfInBounds i true) a w) → K' a w) → if Region.wanted o (yielded ops a.tmps) = true then Oper.wp P o a w K' Q else K' (a.put o.dst undef) w)
    (hs : AllReadyT P md ops Q S z n fuel listed a w rs) : AllReadyT P md ops Q S z n fuel listed a w (i :: rs) := fun j hj => by
  rcases List.mem_cons.1 hj with rfl | hj
  · exact wpOp_step ho (fun K' hK => h K' (fun a w hS hW => hK a w ⟨hS, hW hS⟩))
  · exact hs j hj
theorem wpAnyT_ready {rs : List Nat} {fuel : Nat} {listed : Array Bool} {a : Act} {w : World} (hr : Region.ready md ops listed = rs) (hne : rs ≠ [])
    (h : AllReadyT P md ops Q S z n fuel listed a w rs) : wpAnyT P md ops Q S z n (fuel + 1) listed a w := ⟨fun h0 => absurd (hr ▸ h0) hne, hr ▸ h⟩
theorem wpAnyT_done {listed : Array Bool} {a : Act} {w : World} (hr : Region.ready md ops listed = []) (h : Q .normal a w) : ∀ fuel, wpAnyT P md ops Q S z n fuel listed a w
  | 0 => ⟨hr, h⟩
  | _ + 1 => ⟨fun _ => h, by rw [hr]; simp⟩
theorem wp_region_T {id : Nat} {a : Act} {w : World} (z n : Nat) (S : World → Prop) (hm : P.follows .mixedOrders = true) (hS : S w.drew)
    (h : S w.drew → wpAnyT P .any ops Q S z n ops.size (Array.replicate ops.size false) a w.drew) : (Code.region id ops true).wp P Q a w :=
  wp_region_any hm (wpAny_of_T _ _ _ _ (h hS))
theorem tail_cut {fuel : Nat} {listed : Array Bool} {a : Act} {w : World} (R : Nat → Nat → Nat → Nat → Nat → Nat → Nat → Nat → Nat → World → Prop) (V : Nat → Nat → Nat → Nat → Nat → Nat → Nat → Nat → Nat → Act → Act) (f' : Nat) (Ls : Array Bool → Array Bool)
    (htail : ∀ L1 L2 L3 g1 c1 g2 c2 g3 c3 Y, R L1 L2 L3 g1 c1 g2 c2 g3 c3 Y → wpAnyT P md ops Q S z n f' (Ls listed) (V L1 L2 L3 g1 c1 g2 c2 g3 c3 a) Y)
    (hmain : (∀ L1 L2 L3 g1 c1 g2 c2 g3 c3 Y, R L1 L2 L3 g1 c1 g2 c2 g3 c3 Y → wpAnyT P md ops Q S z n f' (Ls listed) (V L1 L2 L3 g1 c1 g2 c2 g3 c3 a) Y) → wpAnyT P md ops Q S z n fuel listed a w) : wpAnyT P md ops Q S z n fuel listed a w := hmain htail
end
end Go.Proofs.Ytmeefmoblkiebaa
/- What holds of the world while a stage's three rows are appended to. -/
namespace Go.Proofs.Ytmeefmoblkiebaa
open Go.RowKit
set_option linter.unusedVariables false
set_option linter.unusedSimpArgs false
set_option maxHeartbeats 400000
set_option maxRecDepth 100000
structure Cst where
  w : World
  kv : List (Ce × Value)
  sv : Value
  v1 : Value
  v2 : Value
  v3 : Value
  b8 : Nat
  a0 : Value
  a1 : Value
  a2 : Value
  a3 : Value
  e0 : Value
  e1 : Value
  e2 : Value
  e3 : Value
structure R3 (K : Cst) (Y : World) (Ls : List (Nat × Array Value × TypeId)) (x1 x2 x3 : Value) (n1 n2 n3 : Nat) (c1 c2 c3 : List Value) : Prop where
  st : Y.ownsRow K.w.heap.size 92 4 (.slice (some ⟨K.w.heap.size, 0, none⟩) 1 1) 1 [K.sv, K.v1, K.v2, K.v3]
  r1 : Y.ownsRow (K.w.heap.size + 2) 94 1 x1 n1 c1
  r2 : Y.ownsRow (K.w.heap.size + 2) 95 4 x2 n2 c2
  r3 : Y.ownsRow (K.w.heap.size + 2) 96 4 x3 n3 c3
  d12 : ∀ q, x1.ownBlock = some q → x2.ownBlock ≠ some q
  d13 : ∀ q, x1.ownBlock = some q → x3.ownBlock ≠ some q
  d23 : ∀ q, x2.ownBlock = some q → x3.ownBlock ≠ some q
  mp : MapAt Y (K.w.heap.size + 1) K.kv
  bw : Below K.w.heap.size K.w Y
  o10 : Y.ownsRow (K.b8 + 1) 95 4 (.slice (some ⟨K.b8 + 1, 0, none⟩) 1 1) 1 [K.a0, K.a1, K.a2, K.a3]
  o11 : Y.ownsRow (K.b8 + 1) 96 4 (.slice (some ⟨K.b8 + 1 + 1, 0, none⟩) 1 1) 1 [K.e0, K.e1, K.e2, K.e3]
  lits : ∀ p ∈ Ls, K.b8 + 1 + 1 < p.1 ∧ Y.heap[p.1]? = some (.cells p.2.1 p.2.2 (0, 0))
theorem R3.step {K : Cst} {Y Y' : World} {Ls : List (Nat × Array Value × TypeId)} {x1 x2 x3 : Value} {n1 n2 n3 : Nat} {c1 c2 c3 : List Value} (h : R3 K Y Ls x1 x2 x3 n1 n2 n3 c1 c2 c3) (hb : Below Y.heap.size Y Y') : R3 K Y' Ls x1 x2 x3 n1 n2 n3 c1 c2 c3 where
  st := own_below h.st hb (Nat.le_refl _)
  r1 := own_below h.r1 hb (Nat.le_refl _)
  r2 := own_below h.r2 hb (Nat.le_refl _)
  r3 := own_below h.r3 hb (Nat.le_refl _)
  d12 := h.d12
  d13 := h.d13
  d23 := h.d23
  mp := map_below h.mp hb (map_lt h.mp)
  bw := bl_trans h.bw hb
  o10 := own_below h.o10 hb (Nat.le_refl _)
  o11 := own_below h.o11 hb (Nat.le_refl _)
  lits := fun p hp => ⟨(h.lits p hp).1, by rw [hb.block p.1 (Array.getElem?_eq_some_iff.1 (h.lits p hp).2).1]; exact (h.lits p hp).2⟩
theorem R3.lit {K : Cst} {Y : World} {Ls : List (Nat × Array Value × TypeId)} {x1 x2 x3 : Value} {n1 n2 n3 : Nat} {c1 c2 c3 : List Value} (h : R3 K Y Ls x1 x2 x3 n1 n2 n3 c1 c2 c3) (cs : Array Value) (T : TypeId) : R3 K (Y.alloc (.cells cs T)) ((Y.heap.size, cs, T) :: Ls) x1 x2 x3 n1 n2 n3 c1 c2 c3 :=
  { h.step (bl_alloc (o := .cells cs T) (Below.refl _ Y)) with
    lits := by
      intro p hp
      rcases List.mem_cons.1 hp with rfl | hp
      · exact ⟨(h.o11.lt _ rfl).2, heap_alloc_new Y _⟩
      · exact (h.step (bl_alloc (o := .cells cs T) (Below.refl _ Y))).lits p hp }
theorem R3.forget {K : Cst} {Y : World} {Ls : List (Nat × Array Value × TypeId)} {x1 x2 x3 : Value} {n1 n2 n3 : Nat} {c1 c2 c3 : List Value} (h : R3 K Y Ls x1 x2 x3 n1 n2 n3 c1 c2 c3) : R3 K Y [] x1 x2 x3 n1 n2 n3 c1 c2 c3 :=
  { h with lits := fun p hp => by cases hp }
/-- The cells that the loads read. -/
theorem R3.S {K : Cst} {Y : World} {Ls : List (Nat × Array Value × TypeId)} {x1 x2 x3 : Value} {n1 n2 n3 : Nat} {c1 c2 c3 : List Value} (h : R3 K Y Ls x1 x2 x3 n1 n2 n3 c1 c2 c3) :
    Y.cell? ⟨K.w.heap.size, 1, none⟩ = some K.v1 ∧ Y.cell? ⟨K.w.heap.size, 2, none⟩ = some K.v2 ∧ Y.cell? ⟨K.w.heap.size, 3, none⟩ = some K.v3 ∧
    Y.cell? ⟨K.b8 + 1, 0, none⟩ = some K.a0 ∧ Y.cell? ⟨K.b8 + 1, 1, none⟩ = some K.a1 ∧ Y.cell? ⟨K.b8 + 1, 2, none⟩ = some K.a2 ∧ Y.cell? ⟨K.b8 + 1, 3, none⟩ = some K.a3 ∧
    Y.cell? ⟨K.b8 + 1 + 1, 0, none⟩ = some K.e0 ∧ Y.cell? ⟨K.b8 + 1 + 1, 1, none⟩ = some K.e1 ∧ Y.cell? ⟨K.b8 + 1 + 1, 2, none⟩ = some K.e2 ∧ Y.cell? ⟨K.b8 + 1 + 1, 3, none⟩ = some K.e3 := by
  refine ⟨?_, ?_, ?_, ?_, ?_, ?_, ?_, ?_, ?_, ?_, ?_⟩
  · rw [h.st.cellAt _ (by omega)]; rfl
  · rw [h.st.cellAt _ (by omega)]; rfl
  · rw [h.st.cellAt _ (by omega)]; rfl
  · rw [h.o10.cellAt _ (by omega)]; rfl
  · rw [h.o10.cellAt _ (by omega)]; rfl
  · rw [h.o10.cellAt _ (by omega)]; rfl
  · rw [h.o10.cellAt _ (by omega)]; rfl
  · rw [h.o11.cellAt _ (by omega)]; rfl
  · rw [h.o11.cellAt _ (by omega)]; rfl
  · rw [h.o11.cellAt _ (by omega)]; rfl
  · rw [h.o11.cellAt _ (by omega)]; rfl
theorem R3.app1 {K : Cst} {Y Y' : World} {Ls : List (Nat × Array Value × TypeId)} {x1 x2 x3 : Value} {n1 n2 n3 : Nat} {c1 c2 c3 : List Value} (h : R3 K Y Ls x1 x2 x3 n1 n2 n3 c1 c2 c3) (hlo : ∀ q, x1.ownBlock = some q → q < K.b8) {g cap : Nat} {c' : List Value}
    (hown : Y'.ownsRow (K.w.heap.size + 2) 94 1 (.slice (some ⟨g, 0, none⟩) (n1 + 1) cap) (n1 + 1) c') (hg : Y.grownBy Y' x1.ownBlock) (hat : x1.ownBlock = some g ∨ g = Y.heap.size) : R3 K Y' Ls (.slice (some ⟨g, 0, none⟩) (n1 + 1) cap) x2 x3 (n1 + 1) n2 n3 c' c2 c3 where
  st := own_kept h.st hg (fun q hq e => by have h9 : some K.w.heap.size = some q := hq; cases h9; have := (h.r1.lt _ (by first | exact e | exact e.symm)).1; omega)
  r1 := hown
  r2 := own_kept h.r2 hg (fun q hq e => by first | exact h.d12 q e hq | exact h.d12 q e.symm hq)
  r3 := own_kept h.r3 hg (fun q hq e => by first | exact h.d13 q e hq | exact h.d13 q e.symm hq)
  d12 := fun q hq e => by
    have h9 : some g = some q := hq
    cases h9
    rcases hat with h1 | h1
    · exact h.d12 g h1 e
    · have := (h.r2.lt g e).2; omega
  d13 := fun q hq e => by
    have h9 : some g = some q := hq
    cases h9
    rcases hat with h1 | h1
    · exact h.d13 g h1 e
    · have := (h.r3.lt g e).2; omega
  d23 := h.d23
  mp := by
    obtain ⟨es, clock, m1, m2⟩ := h.mp
    exact ⟨es, clock, by rw [hg.block _ (map_lt h.mp) (fun e => by have := (h.r1.lt _ e.symm).1; omega)]; exact m1, m2⟩
  bw := bl_grown h.bw hg (fun q hq => by have := (h.r1.lt q hq).1; omega)
  o10 := own_kept h.o10 hg (fun q hq e => by have h9 : some (K.b8 + 1) = some q := hq; cases h9; have := hlo _ (by first | exact e | exact e.symm); omega)
  o11 := own_kept h.o11 hg (fun q hq e => by have h9 : some (K.b8 + 1 + 1) = some q := hq; cases h9; have := hlo _ (by first | exact e | exact e.symm); omega)
  lits := fun p hp => ⟨(h.lits p hp).1, by rw [hg.block p.1 (Array.getElem?_eq_some_iff.1 (h.lits p hp).2).1 (fun e => by have := hlo _ e.symm; have := (h.lits p hp).1; omega)]; exact (h.lits p hp).2⟩
theorem R3.app2 {K : Cst} {Y Y' : World} {Ls : List (Nat × Array Value × TypeId)} {x1 x2 x3 : Value} {n1 n2 n3 : Nat} {c1 c2 c3 : List Value} (h : R3 K Y Ls x1 x2 x3 n1 n2 n3 c1 c2 c3) (hlo : ∀ q, x2.ownBlock = some q → q < K.b8) {g cap : Nat} {c' : List Value}
    (hown : Y'.ownsRow (K.w.heap.size + 2) 95 4 (.slice (some ⟨g, 0, none⟩) (n2 + 1) cap) (n2 + 1) c') (hg : Y.grownBy Y' x2.ownBlock) (hat : x2.ownBlock = some g ∨ g = Y.heap.size) : R3 K Y' Ls x1 (.slice (some ⟨g, 0, none⟩) (n2 + 1) cap) x3 n1 (n2 + 1) n3 c1 c' c3 where
  st := own_kept h.st hg (fun q hq e => by have h9 : some K.w.heap.size = some q := hq; cases h9; have := (h.r2.lt _ (by first | exact e | exact e.symm)).1; omega)
  r1 := own_kept h.r1 hg (fun q hq e => by first | exact h.d12 q hq e | exact h.d12 q hq e.symm)
  r2 := hown
  r3 := own_kept h.r3 hg (fun q hq e => by first | exact h.d23 q e hq | exact h.d23 q e.symm hq)
  d12 := fun q hq e => by
    have h9 : some g = some q := e
    cases h9
    rcases hat with h1 | h1
    · exact h.d12 g hq h1
    · have := (h.r1.lt g hq).2; omega
  d13 := h.d13
  d23 := fun q hq e => by
    have h9 : some g = some q := hq
    cases h9
    rcases hat with h1 | h1
    · exact h.d23 g h1 e
    · have := (h.r3.lt g e).2; omega
  mp := by
    obtain ⟨es, clock, m1, m2⟩ := h.mp
    exact ⟨es, clock, by rw [hg.block _ (map_lt h.mp) (fun e => by have := (h.r2.lt _ e.symm).1; omega)]; exact m1, m2⟩
  bw := bl_grown h.bw hg (fun q hq => by have := (h.r2.lt q hq).1; omega)
  o10 := own_kept h.o10 hg (fun q hq e => by have h9 : some (K.b8 + 1) = some q := hq; cases h9; have := hlo _ (by first | exact e | exact e.symm); omega)
  o11 := own_kept h.o11 hg (fun q hq e => by have h9 : some (K.b8 + 1 + 1) = some q := hq; cases h9; have := hlo _ (by first | exact e | exact e.symm); omega)
  lits := fun p hp => ⟨(h.lits p hp).1, by rw [hg.block p.1 (Array.getElem?_eq_some_iff.1 (h.lits p hp).2).1 (fun e => by have := hlo _ e.symm; have := (h.lits p hp).1; omega)]; exact (h.lits p hp).2⟩
theorem R3.app3 {K : Cst} {Y Y' : World} {Ls : List (Nat × Array Value × TypeId)} {x1 x2 x3 : Value} {n1 n2 n3 : Nat} {c1 c2 c3 : List Value} (h : R3 K Y Ls x1 x2 x3 n1 n2 n3 c1 c2 c3) (hlo : ∀ q, x3.ownBlock = some q → q < K.b8) {g cap : Nat} {c' : List Value}
    (hown : Y'.ownsRow (K.w.heap.size + 2) 96 4 (.slice (some ⟨g, 0, none⟩) (n3 + 1) cap) (n3 + 1) c') (hg : Y.grownBy Y' x3.ownBlock) (hat : x3.ownBlock = some g ∨ g = Y.heap.size) : R3 K Y' Ls x1 x2 (.slice (some ⟨g, 0, none⟩) (n3 + 1) cap) n1 n2 (n3 + 1) c1 c2 c' where
  st := own_kept h.st hg (fun q hq e => by have h9 : some K.w.heap.size = some q := hq; cases h9; have := (h.r3.lt _ (by first | exact e | exact e.symm)).1; omega)
  r1 := own_kept h.r1 hg (fun q hq e => by first | exact h.d13 q hq e | exact h.d13 q hq e.symm)
  r2 := own_kept h.r2 hg (fun q hq e => by first | exact h.d23 q hq e | exact h.d23 q hq e.symm)
  r3 := hown
  d12 := h.d12
  d13 := fun q hq e => by
    have h9 : some g = some q := e
    cases h9
    rcases hat with h1 | h1
    · exact h.d13 g hq h1
    · have := (h.r1.lt g hq).2; omega
  d23 := fun q hq e => by
    have h9 : some g = some q := e
    cases h9
    rcases hat with h1 | h1
    · exact h.d23 g hq h1
    · have := (h.r2.lt g hq).2; omega
  mp := by
    obtain ⟨es, clock, m1, m2⟩ := h.mp
    exact ⟨es, clock, by rw [hg.block _ (map_lt h.mp) (fun e => by have := (h.r3.lt _ e.symm).1; omega)]; exact m1, m2⟩
  bw := bl_grown h.bw hg (fun q hq => by have := (h.r3.lt q hq).1; omega)
  o10 := own_kept h.o10 hg (fun q hq e => by have h9 : some (K.b8 + 1) = some q := hq; cases h9; have := hlo _ (by first | exact e | exact e.symm); omega)
  o11 := own_kept h.o11 hg (fun q hq e => by have h9 : some (K.b8 + 1 + 1) = some q := hq; cases h9; have := hlo _ (by first | exact e | exact e.symm); omega)
  lits := fun p hp => ⟨(h.lits p hp).1, by rw [hg.block p.1 (Array.getElem?_eq_some_iff.1 (h.lits p hp).2).1 (fun e => by have := hlo _ e.symm; have := (h.lits p hp).1; omega)]; exact (h.lits p hp).2⟩
theorem Try.infoSides : (Try.prog.info? 94).map (fun i => (i.zero, i.size, i.bytes)) = some (some (.int .u8 0), 1, 1) := by kernel_rfl
theorem Try.info4Sides : (Try.prog.info? 95).map (fun i => (i.zero, i.size, i.bytes)) = some (some (.agg #[.int .u8 0, .int .u8 0, .int .u8 0, .int .u8 0]), 4, 4) := by kernel_rfl
theorem Try.info4Int : (Try.prog.info? 96).map (fun i => (i.zero, i.size, i.bytes)) = some (some (.agg #[.int .i64 0, .int .i64 0, .int .i64 0, .int .i64 0]), 4, 32) := by kernel_rfl
theorem R3.done {K : Cst} {Y : World} {Ls : List (Nat × Array Value × TypeId)} {x1 x2 x3 : Value} {n1 n2 n3 : Nat} {c1 c2 c3 : List Value} (h : R3 K Y Ls x1 x2 x3 n1 n2 n3 c1 c2 c3) :
    (setCells Y K.w.heap.size 1 [x1, x2, x3]).ownsRow K.w.heap.size 92 4 (.slice (some ⟨K.w.heap.size, 0, none⟩) 1 1) 1 [K.sv, x1, x2, x3] ∧
    (setCells Y K.w.heap.size 1 [x1, x2, x3]).ownsRow (K.w.heap.size + 2) 94 1 x1 n1 c1 ∧ (setCells Y K.w.heap.size 1 [x1, x2, x3]).ownsRow (K.w.heap.size + 2) 95 4 x2 n2 c2 ∧ (setCells Y K.w.heap.size 1 [x1, x2, x3]).ownsRow (K.w.heap.size + 2) 96 4 x3 n3 c3 ∧
    MapAt (setCells Y K.w.heap.size 1 [x1, x2, x3]) (K.w.heap.size + 1) K.kv ∧ (∀ q, x1.ownBlock = some q → x2.ownBlock ≠ some q ∧ x3.ownBlock ≠ some q) ∧ (∀ q, x2.ownBlock = some q → x3.ownBlock ≠ some q) ∧ K.w.heap.size + 1 < (setCells Y K.w.heap.size 1 [x1, x2, x3]).heap.size ∧ Below K.w.heap.size K.w (setCells Y K.w.heap.size 1 [x1, x2, x3]) := by
  have hs := own_setCells [x1, x2, x3] (A := [K.sv]) (R := [K.v1, K.v2, K.v3]) (j := 1) h.st rfl (Nat.le_refl _)
  have hg := grown_setCells K.w.heap.size [x1, x2, x3] Y 1
  have hk : ∀ v : Value, (∀ q, v.ownBlock = some q → K.w.heap.size + 2 ≤ q) → ∀ q, v.ownBlock = some q → some q ≠ some K.w.heap.size := fun v hv q hq e => by cases e; have := hv _ hq; omega
  have hb := bl_grown h.bw hg (fun q hq => by cases hq; exact Nat.le_refl _)
  have hm := map_lt h.mp
  refine ⟨hs, own_kept h.r1 hg (hk x1 fun q hq => (h.r1.lt q hq).1), own_kept h.r2 hg (hk x2 fun q hq => (h.r2.lt q hq).1), own_kept h.r3 hg (hk x3 fun q hq => (h.r3.lt q hq).1), ?_, fun q hq => ⟨h.d12 q hq, h.d13 q hq⟩, h.d23, ?_, hb⟩
  · obtain ⟨es, clock, m1, m2⟩ := h.mp
    exact ⟨es, clock, by rw [hg.block _ hm (fun e => by simp at e)]; exact m1, m2⟩
  · exact Nat.lt_of_lt_of_le hm hg.size
end Go.Proofs.Ytmeefmoblkiebaa
/- Contracts: the stage of a board. -/
namespace Go.Proofs.Ytmeefmoblkiebaa
open Go.RowKit
set_option linter.unusedVariables false
set_option linter.unusedSimpArgs false
set_option maxHeartbeats 400000
set_option maxRecDepth 100000
theorem vBd_cell (l : Bd) (h : vBd l = true) (k : Nat) (hk : k < l.ps.length) : 0 ≤ l.ps[k].x ∧ l.ps[k].x < 24 ∧ 0 ≤ l.ps[k].y ∧ l.ps[k].y < 24 := by
  obtain ⟨c1, c2, c3, c4, -⟩ := vBd_bounds l h
  unfold vBd at h
  simp only [Bool.and_eq_true] at h
  have := h.1.2
  rw [List.all_eq_true] at this
  have h5 := this _ (List.getElem_mem hk)
  simp only [Bool.and_eq_true] at h5
  have h6 := h5.2
  unfold cIn inB Pc.at_ at h6
  simp only [Bool.and_eq_true, decide_eq_true_eq] at h6
  omega
theorem sv_own {α : Type} {f : α → List Value} {w : World} {base : Nat} {e : TypeId} {size : Nat} {v : Value} {xs : List α} (h : w.ownsRow base e size v xs.length (flat f xs)) : SV f w v xs := by
  obtain ⟨a, cap, rfl, h1, -, -⟩ := own_at h
  exact ⟨a, cap, rfl, h1⟩
theorem run_place {w : World} {m : Nat} {ps : List Pc} {kv : List (Ce × Value)} (hm : MapAt w m kv) (hp : PlaceOk ps kv) (c : Ce) : (Instr.lookup 93 (.map (some m)) c.val true).run Try.prog w = .ok (.tuple #[.int .i64 (max (fnd c ps) 0), .bool (decide (0 ≤ fnd c ps))]) w := by
  obtain ⟨h, -⟩ := ceTy
  have h1 := run_lookup_ce h Try.underlying93 (.int .i64 0) (fun w => by kernel_rfl) hm c true
  have h2 : ((mfind c kv 0).map (·.2)) = if 0 ≤ fnd c ps then some (.int .i64 (fnd c ps)) else none := hp c
  rw [h1]
  cases hf : mfind c kv 0 with
  | none =>
    rw [hf] at h2
    by_cases g : 0 ≤ fnd c ps
    · rw [if_pos g] at h2; cases h2
    · have e : max (fnd c ps) 0 = 0 := by omega
      rw [decide_eq_false g, e]; rfl
  | some p =>
    rw [hf] at h2
    by_cases g : 0 ≤ fnd c ps
    · rw [if_pos g] at h2
      have e : max (fnd c ps) 0 = fnd c ps := by omega
      simp only [Option.map_some, Option.some.injEq] at h2
      rw [decide_eq_true g, e]
      simp [h2]
    · rw [if_neg g] at h2; cases h2
theorem bl_gb {a b c : World} {q : Nat} (h : Below a.heap.size a b) (k : b.grownBy c (some q)) : a.grownBy c (some q) :=
  ⟨k.os.trans h.os, k.tape.trans h.tape, k.output.trans h.output, Nat.le_trans h.size k.size, fun i hi hn => (k.block i (Nat.lt_of_lt_of_le hi h.size) hn).trans (h.block i hi)⟩
/-- What is kept while one elder block turns. -/
def KpPs (w : World) (b0 : Nat) (l : Bd) (q : Nat) : Prop := q < w.heap.size ∧ ∀ sa cap, w.cell? ⟨b0, 2, none⟩ = some (.slice sa l.ps.length cap) → ∀ w2, w.grownBy w2 (some q) → SlAt w2.heap.size w2 sa (flat Pc.cells l.ps)
set_option maxHeartbeats 3200000 in
theorem stageOf_kp (b0 : Nat) (l : Bd) (w : World) (hbp : BP w b0 l) (hv : vBd l = true) :
    Calls Try.prog 23 #[.pointer (some ⟨b0, 0, none⟩)] w fun e w' => ∃ g, e = .returned (.pointer (some ⟨g, 0, none⟩)) ∧ w.heap.size ≤ g ∧ (StAt w' g l ∧ ∀ q, KpPs w b0 l q → ∀ w2, w'.grownBy w2 (some q) → StAt w2 g l) ∧ Below w.heap.size w w' := by
  have HBP := Lib.hid hbp
  obtain ⟨hbl, sv, hbd, sa, scap, rfl, hps⟩ := hbp
  unfold BdAt at hbd
  have HC2 := Lib.hid hbd.2.2
  obtain ⟨c1, c2, c3, c4, c5⟩ := vBd_bounds l hv
  have hnd : (l.ps.map Pc.at_).Nodup := by
    unfold vBd at hv
    simp only [Bool.and_eq_true, decide_eq_true_eq] at hv
    exact hv.2
  have HND := Lib.hid hnd
  clear hnd
  obtain ⟨hcty, -⟩ := ceTy
  have hmm := @run_makeMap Try.prog
  go_enter Try.func23, Try.ntmps23
  go_wp2
  go_loopw [29] (fun i wr => ∃ k : Nat, ∃ kv : List (Ce × Value), k ≤ l.ps.length ∧ i = .int .i64 k ∧ Hid (PlaceOk (l.ps.take k) kv) ∧ MapAt wr (w.heap.size + 1) kv ∧ w.heap.size + 1 < wr.heap.size ∧ wr.ownsRow w.heap.size 92 4 (.slice (some ⟨w.heap.size, 0, none⟩) 1 1) 1 [.slice sa l.ps.length scap, .slice none 0 0, .slice none 0 0, .slice none 0 0] ∧ Below w.heap.size w wr) (fun i _ => l.ps.length - (intOf i).toNat)
  case atStart =>
    refine ⟨0, [], by omega, rfl, Lib.hid placeOk_nil, by have := map_new (w.alloc (.cells #[.slice sa l.ps.length scap, .slice none 0 0, .slice none 0 0, .slice none 0 0] 92)); simpa using this, by simp, ?_, (by repeat (first | with_reducible exact Below.refl _ _ | with_reducible assumption | with_reducible apply bl_drewN | with_reducible apply bl_drew | with_reducible apply bl_alloc | (with_reducible refine bl_set ?_ (by first | (simp; done) | (simp; omega)) _) | with_reducible refine bl_trans ?_ (by with_reducible assumption)))⟩
    exact own_below (own_newAt w #[.slice sa l.ps.length scap, .slice none 0 0, .slice none 0 0, .slice none 0 0] 92 4 w.heap.size w.heap.size rfl (Nat.le_refl _) rfl _ rfl) (bl_alloc (Below.refl _ _)) (Nat.le_refl _)
  case round =>
    clear hmm
    obtain ⟨k, kv, hk, rfl, hpl, hmap, hsz, hown, hb⟩ := hrel
    by_cases hlt : k < l.ps.length
    · obtain ⟨b', off, rfl, hbl', hat⟩ := pcs_get (hps.below hb (Nat.le_refl _)) hlt
      unfold PcAt at hat
      have hm0 := map_alloc hmap (.cells #[.int .i8 l.ps[k].x, .int .i8 l.ps[k].y, .int .i8 l.ps[k].k, .int .i8 l.ps[k].t, .int .i8 l.ps[k].d] 64)
      go_wp2_with (at_mapUpdate; refine wpList_update_ce _ rfl _ _ _ 93 rfl hcty Try.underlying93 _ _ rfl hm0 ⟨l.ps[k].x, l.ps[k].y⟩ (.int .i64 k) rfl rfl ?_; intro w5 hm5 hg5 hz5)
      simp at hz5
      have hown5 := own_kept (own_below hown (bl_alloc (o := .cells #[.int .i8 l.ps[k].x, .int .i8 l.ps[k].y, .int .i8 l.ps[k].k, .int .i8 l.ps[k].t, .int .i8 l.ps[k].d] 64) (Below.refl _ wr)) (Nat.le_refl _)) hg5 (by intro q hq e; have h9 : some w.heap.size = some q := hq; rw [← h9] at e; simp at e)
      have hb5 : Below w.heap.size w w5 := bl_grown (bl_alloc hb) hg5 (fun j hj => by cases hj; omega)
      refine ⟨⟨k + 1, _, by omega, by go_num, Lib.hid (placeOk_succ l.ps HND.out k hlt kv hpl.out), hm5, by omega, hown5, hb5⟩, by simp [intOf]; omega⟩
    · have hkn : k = l.ps.length := by omega
      subst hkn
      rw [List.take_length] at hpl
      obtain ⟨W0, hW0⟩ : ∃ W, W = wr := ⟨_, rfl⟩
      subst hW0
      obtain ⟨hc, hf⟩ := bcell hb
      go_wp2
      go_loopw [44] (fun i wr => ∃ k : Nat, ∃ v1 v2 v3 : Value, k ≤ l.ps.length ∧ i = .int .i64 k ∧ wr.ownsRow w.heap.size 92 4 (.slice (some ⟨w.heap.size, 0, none⟩) 1 1) 1 [.slice sa l.ps.length scap, v1, v2, v3] ∧ wr.ownsRow (w.heap.size + 2) 94 1 v1 k (flat canC (l.ps.take k)) ∧ wr.ownsRow (w.heap.size + 2) 95 4 v2 k (flat hitC (l.ps.take k)) ∧ wr.ownsRow (w.heap.size + 2) 96 4 v3 k (flat (besC l.ps) (l.ps.take k)) ∧
        MapAt wr (w.heap.size + 1) kv ∧ (∀ q, v1.ownBlock = some q → v2.ownBlock ≠ some q ∧ v3.ownBlock ≠ some q) ∧ (∀ q, v2.ownBlock = some q → v3.ownBlock ≠ some q) ∧ w.heap.size + 1 < wr.heap.size ∧ Below w.heap.size w wr) (fun i _ => l.ps.length - (intOf i).toNat)
      case atStart => exact ⟨0, .slice none 0 0, .slice none 0 0, .slice none 0 0, by omega, rfl, hown, World.ownsRow_nil _ _ _ _, World.ownsRow_nil _ _ _ _, World.ownsRow_nil _ _ _ _, hmap, (fun q hq => by cases hq), (fun q hq => by cases hq), hsz, hb⟩
      case round =>
        clear hmap hown hb hsz
        obtain ⟨k, v1, v2, v3, hk, rfl, hst, hr1, hr2, hr3, hmap, hd1, hd2, hsz, hb⟩ := hrel
        by_cases hlt : k < l.ps.length
        · obtain ⟨b', off, rfl, hbl', hat⟩ := pcs_get (hps.below hb (Nat.le_refl _)) hlt
          unfold PcAt at hat
          have hvk := vBd_piece2 l hv k hlt
          have hPc := vBd_cell l hv k hlt
          obtain ⟨k1, k2, k3, k4, k5, k6⟩ := hvk
          go_upto_region 11 with fail
          have hh := heap_alloc_new wr (.cells #[.int .i8 l.ps[k].x, .int .i8 l.ps[k].y, .int .i8 l.ps[k].k, .int .i8 l.ps[k].t, .int .i8 l.ps[k].d] 64)
          have hb9 : Below w.heap.size w (wr.alloc (.cells #[.int .i8 l.ps[k].x, .int .i8 l.ps[k].y, .int .i8 l.ps[k].k, .int .i8 l.ps[k].t, .int .i8 l.ps[k].d] 64)) := bl_alloc hb
          have hbo : Below wr.heap.size wr (wr.alloc (.cells #[.int .i8 l.ps[k].x, .int .i8 l.ps[k].y, .int .i8 l.ps[k].k, .int .i8 l.ps[k].t, .int .i8 l.ps[k].d] 64)) := bl_alloc (Below.refl _ _)
          have hst9 := own_below hst hbo (Nat.le_refl _)
          have hr19 := own_below hr1 hbo (Nat.le_refl _)
          have hr29 := own_below hr2 hbo (Nat.le_refl _)
          have hr39 := own_below hr3 hbo (Nat.le_refl _)
          have hm9 := map_alloc hmap (.cells #[.int .i8 l.ps[k].x, .int .i8 l.ps[k].y, .int .i8 l.ps[k].k, .int .i8 l.ps[k].t, .int .i8 l.ps[k].d] 64)
          have hz9 : (wr.alloc (.cells #[.int .i8 l.ps[k].x, .int .i8 l.ps[k].y, .int .i8 l.ps[k].k, .int .i8 l.ps[k].t, .int .i8 l.ps[k].d] 64)).heap.size = wr.heap.size + 1 := by simp
          have hl1 : ∀ q, v1.ownBlock = some q → q < wr.heap.size := fun q hq => (hr1.lt q hq).2
          have hl2 : ∀ q, v2.ownBlock = some q → q < wr.heap.size := fun q hq => (hr2.lt q hq).2
          have hl3 : ∀ q, v3.ownBlock = some q → q < wr.heap.size := fun q hq => (hr3.lt q hq).2
          obtain ⟨W9, hW9⟩ : ∃ W, W = wr.alloc (.cells #[.int .i8 l.ps[k].x, .int .i8 l.ps[k].y, .int .i8 l.ps[k].k, .int .i8 l.ps[k].t, .int .i8 l.ps[k].d] 64) := ⟨_, rfl⟩
          rw [← hW9] at hh hb9 hst9 hr19 hr29 hr39 hm9 hz9 ⊢
          obtain ⟨b8, hb8⟩ : ∃ b, b = wr.heap.size := ⟨_, rfl⟩
          rw [← hb8] at hh hz9 hl1 hl2 hl3 hsz ⊢
          clear hW9 hbo hst hr1 hr2 hr3 hmap hb hb8
          have y0 : W9.cell? ⟨b8, 0, none⟩ = some (.int .i8 l.ps[k].x) := by rw [cell_of_row _ _ _ _ _ _ hh]; rfl
          have y1 : W9.cell? ⟨b8, 1, none⟩ = some (.int .i8 l.ps[k].y) := by rw [cell_of_row _ _ _ _ _ _ hh]; rfl
          have y2 : W9.cell? ⟨b8, 2, none⟩ = some (.int .i8 l.ps[k].k) := by rw [cell_of_row _ _ _ _ _ _ hh]; rfl
          have y3 : W9.cell? ⟨b8, 3, none⟩ = some (.int .i8 l.ps[k].t) := by rw [cell_of_row _ _ _ _ _ _ hh]; rfl
          have y4 : W9.cell? ⟨b8, 4, none⟩ = some (.int .i8 l.ps[k].d) := by rw [cell_of_row _ _ _ _ _ _ hh]; rfl
          have o10 := own_below (own_newAt W9 #[.int .u8 0, .int .u8 0, .int .u8 0, .int .u8 0] 95 4 (b8 + 1) (b8 + 1) hz9.symm (Nat.le_refl _) rfl _ rfl) (bl_alloc (o := .cells #[.int .i64 0, .int .i64 0, .int .i64 0, .int .i64 0] 96) (Below.refl _ _)) (Nat.le_refl _)
          have o11 := own_newAt (W9.alloc (.cells #[.int .u8 0, .int .u8 0, .int .u8 0, .int .u8 0] 95)) #[.int .i64 0, .int .i64 0, .int .i64 0, .int .i64 0] 96 4 (b8 + 1) (b8 + 1 + 1) (by simp [hz9]) (by omega) rfl _ rfl
          have hbz : Below W9.heap.size W9 ((W9.alloc (.cells #[.int .u8 0, .int .u8 0, .int .u8 0, .int .u8 0] 95)).alloc (.cells #[.int .i64 0, .int .i64 0, .int .i64 0, .int .i64 0] 96)) := bl_alloc (bl_alloc (Below.refl _ _))
          clear hh
          have HST := Lib.hid hst9
          have HR1 := Lib.hid hr19
          have HR2 := Lib.hid hr29
          have HR3 := Lib.hid hr39
          have HM := Lib.hid hm9
          have HB9 := Lib.hid hb9
          have HD1 := Lib.hid hd1
          have HD2 := Lib.hid hd2
          clear hst9 hr19 hr29 hr39 hm9 hb9 hd1 hd2
          obtain ⟨P, hP⟩ : ∃ P, P = l.ps[k] := ⟨_, rfl⟩
          rw [← hP] at y0 y1 y2 y3 y4 k1 k2 k3 k4 k5 k6 hPc ⊢
          have hPok : (⟨P.x, P.y⟩ : Ce).ok := by constructor <;> constructor <;> simp only <;> omega
          have hzz : W9.heap.size = b8 + 1 := hz9
          have HP := Lib.hid hP
          clear hP
          have HPL := Lib.hid (show PlaceOk l.ps kv from hpl.out)
          go_wp2_with fail
          go_loopw [9, 50] (fun c s wx => ∃ m : Nat, m ≤ 4 ∧ s = .int .i64 m ∧ c = .int .u8 (canTo P m) ∧ wx.ownsRow (b8 + 1) 95 4 (.slice (some ⟨b8 + 1, 0, none⟩) 1 1) 1 (hitTo P m) ∧ wx.ownsRow (b8 + 1) 96 4 (.slice (some ⟨b8 + 1 + 1, 0, none⟩) 1 1) 1 (besTo l.ps P m) ∧ Below W9.heap.size W9 wx) (fun _ s _ => 4 - (intOf s).toNat)
          case atStart => exact ⟨0, by omega, rfl, rfl, o10, o11, hbz⟩
          case round =>
            clear o10 o11 hbz
            obtain ⟨m, hm, rfl, rfl, o10, o11, hbx⟩ := hrel
            obtain ⟨hcx, hfx⟩ := bcell hbx
            have hzx := hbx.size
            by_cases hlm : m < 4
            · have HF := Lib.hid (fun w' => falls_any P.x P.y P.k P.t P.d m k1 k2 k3 k4 (by omega) (by omega) w')
              go_wp2_with fail
              refine (HF.out _).mono ?_
              rintro e w1 ⟨rfl, hb1⟩
              have hbw1 := bl_trans hbx hb1
              have o10a := own_below o10 hb1 (Nat.le_refl _)
              have o11a := own_below o11 hb1 (Nat.le_refl _)
              have O10 := Lib.hid o10a
              have O11 := Lib.hid o11a
              have HBX := Lib.hid hbw1
              have HCS := Lib.hid (canTo_succ P m)
              obtain ⟨hvm, hhv⟩ : ∃ v, v = hv0 P m := ⟨_, rfl⟩
              rw [show max (hitsV P.k P.t (m : Int)) 0 = hv0 P m from rfl, ← hhv]
              have HHV := Lib.hid hhv
              have hz1 := hbw1.size
              clear o10 o11 hbx hb1 o10a o11a hbw1 hcx hfx hzx HF hhv
              rcases dec_cases (0 ≤ hitsV P.k P.t m) with ⟨g1, g1'⟩ | ⟨g1, g1'⟩
              · rw [g1]
                rw [if_pos g1'] at HCS
                clear g1'
                go_wp2_with fail
                refine (sides1_any _ m _ (by omega) (by omega)).mono ?_
                rintro e w2 ⟨rfl, rfl⟩
                have hb2 : Below w1.heap.size w1 (w1.alloc (.cells #[.int .i64 m] 3)) := bl_alloc (Below.refl _ _)
                have o10b := own_below O10.out hb2 (Nat.le_refl _)
                have o11b := own_below O11.out hb2 (Nat.le_refl _)
                have hbxb := bl_trans HBX.out hb2
                obtain ⟨X, hX⟩ : ∃ X, X = w1.alloc (.cells #[.int .i64 m] 3) := ⟨_, rfl⟩
                rw [← hX] at o10b o11b hbxb ⊢
                have O10b := Lib.hid o10b
                have O11b := Lib.hid o11b
                have HBXb := Lib.hid hbxb
                have hzX := hbxb.size
                clear hX hb2 o10b o11b hbxb
                obtain ⟨⟨v0, x0⟩, f0⟩ := own_cell O10b.out (j := m) (by omega)
                obtain ⟨⟨v4, x4⟩, f4⟩ := own_cell O11b.out (j := m) (by omega)
                go_upto_region 18 with fail
                have p10 := (O10b.out.stored m (.int .u8 hvm)).1
                have p10k := (O10b.out.stored m (.int .u8 hvm)).2
                have p11 := own_kept O11b.out p10k (by intro q hq e; have h9 : some (b8 + 1 + 1) = some q := hq; rw [← h9] at e; simp at e)
                have q11 := (p11.stored m (.int .i64 (-1))).1
                have q11k := (p11.stored m (.int .i64 (-1))).2
                have q10 := own_kept p10 q11k (by intro q hq e; have h9 : some (b8 + 1) = some q := hq; rw [← h9] at e; simp at e)
                have hb17 := bl_grown (bl_grown HBXb.out p10k (fun q hq => by cases hq; omega)) q11k (fun q hq => by cases hq; omega)
                clear p10 p10k p11 q11k x0 f0 x4 f4
                obtain ⟨W17, hW17⟩ : ∃ W, W = (X.setCell ⟨b8 + 1, m, none⟩ (.int .u8 hvm)).setCell ⟨b8 + 1 + 1, m, none⟩ (.int .i64 (-1)) := ⟨_, rfl⟩
                rw [← hW17] at q10 q11 hb17 ⊢
                clear hW17
                have Q10 := Lib.hid q10
                have Q11 := Lib.hid q11
                have HB17 := Lib.hid hb17
                obtain ⟨hc17, hf17⟩ := bcell hb17
                have hz17 := hb17.size
                clear q10 q11 hb17
                have HNX := Lib.hid (fun w' => next_any ⟨P.x, P.y⟩ hPok (m : Int) (by omega) (by omega) w')
                go_wp2_with fail
                refine (HNX.out _).mono ?_
                rintro e w3 ⟨rfl, hb3⟩
                have hb93 := bl_trans HB17.out hb3
                have Q10c := Lib.hid (own_below Q10.out hb3 (Nat.le_refl _))
                have Q11c := Lib.hid (own_below Q11.out hb3 (Nat.le_refl _))
                have HB93 := Lib.hid hb93
                have hz3 := hb93.size
                have hlk0 := run_place (map_below HM.out hb93 (by omega)) HPL.out (nxt ⟨P.x, P.y⟩ m)
                have hbv : besV l.ps P m = fnd (nxt ⟨P.x, P.y⟩ m) l.ps := rfl
                clear hb3 hb93 hc17 hf17
                obtain ⟨nx, hnx⟩ : ∃ nx, nx = nxt ⟨P.x, P.y⟩ m := ⟨_, rfl⟩
                rw [← hnx] at hlk0 hbv ⊢
                clear hnx
                rcases fnd_lo nx l.ps with gn | ⟨gn, gn2⟩
                · rw [gn] at hlk0 hbv
                  have hlk : (Instr.lookup 93 (.map (some (w.heap.size + 1))) (.agg #[.int .i8 nx.x, .int .i8 nx.y]) true).run Try.prog w3 = .ok (.tuple #[.int .i64 0, .bool false]) w3 := hlk0
                  have HBV := Lib.hid hbv
                  clear hlk0 hbv gn
                  go_wp2
                  go_roundw
                  case rel =>
                    refine ⟨m + 1, by omega, by go_num, by rw [HCS.out], ?_, ?_, HB93.out⟩
                    · rw [← hitTo_set P m hlm, ← HHV.out]; exact Q10c.out
                    · rw [← besTo_set l.ps P m hlm, HBV.out]; exact Q11c.out
                  case measure => simp [intOf]; omega
                · obtain ⟨fv, hfv⟩ : ∃ fv, fv = fnd nx l.ps := ⟨_, rfl⟩
                  rw [← hfv] at hlk0 hbv gn gn2
                  clear hfv
                  rw [decide_eq_true gn, show max fv 0 = fv by omega] at hlk0
                  have hlk : (Instr.lookup 93 (.map (some (w.heap.size + 1))) (.agg #[.int .i8 nx.x, .int .i8 nx.y]) true).run Try.prog w3 = .ok (.tuple #[.int .i64 fv, .bool true]) w3 := hlk0
                  have HBV := Lib.hid hbv
                  clear hlk0 hbv
                  obtain ⟨⟨v4, x4⟩, f4⟩ := own_cell Q11c.out (j := m) (by omega)
                  go_wp2
                  have r11 := (Q11c.out.stored m (.int .i64 fv)).1
                  have r11k := (Q11c.out.stored m (.int .i64 fv)).2
                  have r10 := own_kept Q10c.out r11k (by intro q hq e; have h9 : some (b8 + 1) = some q := hq; rw [← h9] at e; simp at e)
                  have hbe := bl_grown HB93.out r11k (fun q hq => by cases hq; omega)
                  clear x4 f4 r11k
                  go_roundw
                  case rel =>
                    refine ⟨m + 1, by omega, by go_num, by rw [HCS.out], ?_, ?_, hbe⟩
                    · rw [← hitTo_set P m hlm, ← HHV.out]; exact r10
                    · rw [← besTo_set l.ps P m hlm, HBV.out]; rw [List.set_set] at r11; exact r11
                  case measure => simp [intOf]; omega
              · rw [g1]
                rw [if_neg g1'] at HCS
                clear g1'
                obtain ⟨X, hX⟩ : ∃ X, X = w1 := ⟨_, rfl⟩
                rw [← hX] at O10 O11 HBX hz1 ⊢
                have O10b := Lib.hid O10.out
                have O11b := Lib.hid O11.out
                have HBXb := Lib.hid HBX.out
                have hzX := hz1
                clear hX
                obtain ⟨⟨v0, x0⟩, f0⟩ := own_cell O10b.out (j := m) (by omega)
                obtain ⟨⟨v4, x4⟩, f4⟩ := own_cell O11b.out (j := m) (by omega)
                go_upto_region 18 with fail
                have p10 := (O10b.out.stored m (.int .u8 hvm)).1
                have p10k := (O10b.out.stored m (.int .u8 hvm)).2
                have p11 := own_kept O11b.out p10k (by intro q hq e; have h9 : some (b8 + 1 + 1) = some q := hq; rw [← h9] at e; simp at e)
                have q11 := (p11.stored m (.int .i64 (-1))).1
                have q11k := (p11.stored m (.int .i64 (-1))).2
                have q10 := own_kept p10 q11k (by intro q hq e; have h9 : some (b8 + 1) = some q := hq; rw [← h9] at e; simp at e)
                have hb17 := bl_grown (bl_grown HBXb.out p10k (fun q hq => by cases hq; omega)) q11k (fun q hq => by cases hq; omega)
                clear p10 p10k p11 q11k x0 f0 x4 f4
                obtain ⟨W17, hW17⟩ : ∃ W, W = (X.setCell ⟨b8 + 1, m, none⟩ (.int .u8 hvm)).setCell ⟨b8 + 1 + 1, m, none⟩ (.int .i64 (-1)) := ⟨_, rfl⟩
                rw [← hW17] at q10 q11 hb17 ⊢
                clear hW17
                have Q10 := Lib.hid q10
                have Q11 := Lib.hid q11
                have HB17 := Lib.hid hb17
                obtain ⟨hc17, hf17⟩ := bcell hb17
                have hz17 := hb17.size
                clear q10 q11 hb17
                have HNX := Lib.hid (fun w' => next_any ⟨P.x, P.y⟩ hPok (m : Int) (by omega) (by omega) w')
                go_wp2_with fail
                refine (HNX.out _).mono ?_
                rintro e w3 ⟨rfl, hb3⟩
                have hb93 := bl_trans HB17.out hb3
                have Q10c := Lib.hid (own_below Q10.out hb3 (Nat.le_refl _))
                have Q11c := Lib.hid (own_below Q11.out hb3 (Nat.le_refl _))
                have HB93 := Lib.hid hb93
                have hz3 := hb93.size
                have hlk0 := run_place (map_below HM.out hb93 (by omega)) HPL.out (nxt ⟨P.x, P.y⟩ m)
                have hbv : besV l.ps P m = fnd (nxt ⟨P.x, P.y⟩ m) l.ps := rfl
                clear hb3 hb93 hc17 hf17
                obtain ⟨nx, hnx⟩ : ∃ nx, nx = nxt ⟨P.x, P.y⟩ m := ⟨_, rfl⟩
                rw [← hnx] at hlk0 hbv ⊢
                clear hnx
                rcases fnd_lo nx l.ps with gn | ⟨gn, gn2⟩
                · rw [gn] at hlk0 hbv
                  have hlk : (Instr.lookup 93 (.map (some (w.heap.size + 1))) (.agg #[.int .i8 nx.x, .int .i8 nx.y]) true).run Try.prog w3 = .ok (.tuple #[.int .i64 0, .bool false]) w3 := hlk0
                  have HBV := Lib.hid hbv
                  clear hlk0 hbv gn
                  go_wp2
                  go_roundw
                  case rel =>
                    refine ⟨m + 1, by omega, by go_num, by rw [HCS.out], ?_, ?_, HB93.out⟩
                    · rw [← hitTo_set P m hlm, ← HHV.out]; exact Q10c.out
                    · rw [← besTo_set l.ps P m hlm, HBV.out]; exact Q11c.out
                  case measure => simp [intOf]; omega
                · obtain ⟨fv, hfv⟩ : ∃ fv, fv = fnd nx l.ps := ⟨_, rfl⟩
                  rw [← hfv] at hlk0 hbv gn gn2
                  clear hfv
                  rw [decide_eq_true gn, show max fv 0 = fv by omega] at hlk0
                  have hlk : (Instr.lookup 93 (.map (some (w.heap.size + 1))) (.agg #[.int .i8 nx.x, .int .i8 nx.y]) true).run Try.prog w3 = .ok (.tuple #[.int .i64 fv, .bool true]) w3 := hlk0
                  have HBV := Lib.hid hbv
                  clear hlk0 hbv
                  obtain ⟨⟨v4, x4⟩, f4⟩ := own_cell Q11c.out (j := m) (by omega)
                  go_wp2
                  have r11 := (Q11c.out.stored m (.int .i64 fv)).1
                  have r11k := (Q11c.out.stored m (.int .i64 fv)).2
                  have r10 := own_kept Q10c.out r11k (by intro q hq e; have h9 : some (b8 + 1) = some q := hq; rw [← h9] at e; simp at e)
                  have hbe := bl_grown HB93.out r11k (fun q hq => by cases hq; omega)
                  clear x4 f4 r11k
                  go_roundw
                  case rel =>
                    refine ⟨m + 1, by omega, by go_num, by rw [HCS.out], ?_, ?_, hbe⟩
                    · rw [← hitTo_set P m hlm, ← HHV.out]; exact r10
                    · rw [← besTo_set l.ps P m hlm, HBV.out]; rw [List.set_set] at r11; exact r11
                  case measure => simp [intOf]; omega
            · have hm4 : m = 4 := by omega
              subst hm4
              rw [hitTo_all] at o10
              rw [besTo_all] at o11
              have st := own_below HST.out hbx (Nat.le_refl _)
              have r1 := own_below HR1.out hbx (Nat.le_refl _)
              have r2 := own_below HR2.out hbx (Nat.le_refl _)
              have r3 := own_below HR3.out hbx (Nat.le_refl _)
              have hbw := bl_trans HB9.out hbx
              obtain ⟨W22, hW22⟩ : ∃ W, W = wr := ⟨_, rfl⟩
              subst hW22
              obtain ⟨cv, hcv⟩ : ∃ cv, cv = canTo P 4 := ⟨_, rfl⟩
              rw [← hcv]
              have HCV := Lib.hid hcv
              clear hcv
              have HONE : Hid (∀ u ∈ (Array.toList #[Value.int .u8 cv]), u.oneCell' = true) := Lib.hid (by intro u hu; simp at hu; subst hu; rfl)
              obtain ⟨i1, hi1, hiz1, hix1, hiy1⟩ := info_parts Try.infoSides
              obtain ⟨i2, hi2, hiz2, hix2, hiy2⟩ := info_parts Try.info4Sides
              obtain ⟨i3, hi3, hiz3, hix3, hiy3⟩ := info_parts Try.info4Int
              have RR : R3 ⟨w, kv, .slice (some ⟨b', off, none⟩) l.ps.length scap, v1, v2, v3, b8, .int .u8 (hv0 P 0), .int .u8 (hv0 P 1), .int .u8 (hv0 P 2), .int .u8 (hv0 P 3), .int .i64 (besV l.ps P 0), .int .i64 (besV l.ps P 1), .int .i64 (besV l.ps P 2), .int .i64 (besV l.ps P 3)⟩ W22 [] v1 v2 v3 k k k (flat canC (l.ps.take k)) (flat hitC (l.ps.take k)) (flat (besC l.ps) (l.ps.take k)) :=
                ⟨st, r1, r2, r3, fun q hq => (HD1.out q hq).1, fun q hq => (HD1.out q hq).2, HD2.out, map_below HM.out hbx (show w.heap.size + 1 < W9.heap.size by omega), hbw, o10, o11, fun p hp => by cases hp⟩
              have RR := RR.step (bl_drew (Below.refl _ _))
              clear st r1 r2 r3 hbw o10 o11 hbx
              go_upto_region 22 with fail
              refine wp_region_T 3 24 (fun w' => w'.cell? ⟨w.heap.size, 1, none⟩ = some v1 ∧ w'.cell? ⟨w.heap.size, 2, none⟩ = some v2 ∧ w'.cell? ⟨w.heap.size, 3, none⟩ = some v3 ∧ w'.cell? ⟨b8 + 1, 0, none⟩ = some (.int .u8 (hv0 P 0)) ∧ w'.cell? ⟨b8 + 1, 1, none⟩ = some (.int .u8 (hv0 P 1)) ∧ w'.cell? ⟨b8 + 1, 2, none⟩ = some (.int .u8 (hv0 P 2)) ∧ w'.cell? ⟨b8 + 1, 3, none⟩ = some (.int .u8 (hv0 P 3)) ∧ w'.cell? ⟨b8 + 1 + 1, 0, none⟩ = some (.int .i64 (besV l.ps P 0)) ∧ w'.cell? ⟨b8 + 1 + 1, 1, none⟩ = some (.int .i64 (besV l.ps P 1)) ∧ w'.cell? ⟨b8 + 1 + 1, 2, none⟩ = some (.int .i64 (besV l.ps P 2)) ∧ w'.cell? ⟨b8 + 1 + 1, 3, none⟩ = some (.int .i64 (besV l.ps P 3))) (by kernel_rfl) RR.S (fun hHeld => ?_)
              obtain ⟨Y0, hY0⟩ : ∃ Y, Y = W22.drew := ⟨_, rfl⟩
              rw [← hY0] at RR hHeld ⊢
              clear hY0
              (refine' wpAnyT_takeP 0 (oi := ?oi16) (v := ?v16) ?hi16 (by decide) (by kernel_rfl) (by kernel_rfl) (by kernel_rfl) ?hQ16 ?hy16 ?rest16; (case hi16 => simp only [List.getElem?_toArray, List.getElem?_cons_zero, List.getElem?_cons_succ]; rfl); (case hQ16 => exact fun _ _ _ h => h); (case hy16 => refine Or.inl ⟨by rfl, ?_⟩; intro wz hSw; go_simp; try with_reducible rfl); try simp only [Act.put, List.setIfInBounds_toArray, List.set_cons_zero, List.set_cons_succ])
              (refine' wpAnyT_takeP 1 (oi := ?oi17) (v := ?v17) ?hi17 (by decide) (by kernel_rfl) (by kernel_rfl) (by kernel_rfl) ?hQ17 ?hy17 ?rest17; (case hi17 => simp only [List.getElem?_toArray, List.getElem?_cons_zero, List.getElem?_cons_succ]; rfl); (case hQ17 => exact fun _ _ _ h => h); (case hy17 => refine Or.inl ⟨by rfl, ?_⟩; intro wz hSw; go_simp; try with_reducible rfl); try simp only [Act.put, List.setIfInBounds_toArray, List.set_cons_zero, List.set_cons_succ])
              (refine' wpAnyT_takeP 2 (oi := ?oi18) (v := ?v18) ?hi18 (by decide) (by kernel_rfl) (by kernel_rfl) (by kernel_rfl) ?hQ18 ?hy18 ?rest18; (case hi18 => simp only [List.getElem?_toArray, List.getElem?_cons_zero, List.getElem?_cons_succ]; rfl); (case hQ18 => exact fun _ _ _ h => h); (case hy18 => refine Or.inl ⟨by rfl, ?_⟩; intro wz hSw; go_simp; try with_reducible rfl); try simp only [Act.put, List.setIfInBounds_toArray, List.set_cons_zero, List.set_cons_succ])
              (refine' wpAnyT_take 6 3 (oi := ?oi1) (v := ?v1) ?hi1 (by kernel_rfl) (by kernel_rfl) (by kernel_rfl) (by kernel_rfl) (by kernel_rfl) (by kernel_rfl) ?hQ1 ?hy1 (by assumption) ?rest1; (case hi1 => simp only [List.getElem?_toArray, List.getElem?_cons_zero, List.getElem?_cons_succ]; rfl); (case hQ1 => exact fun _ _ _ h => h); (case hy1 => refine Or.inl ⟨by rfl, ?_⟩; intro wz hSw; (try dsimp only at hSw); go_simp; try with_reducible rfl); try simp only [Act.put, List.setIfInBounds_toArray, List.set_cons_zero, List.set_cons_succ])
              (refine' wpAnyT_take 6 4 (oi := ?oi2) (v := ?v2) ?hi2 (by kernel_rfl) (by kernel_rfl) (by kernel_rfl) (by kernel_rfl) (by kernel_rfl) (by kernel_rfl) ?hQ2 ?hy2 (by assumption) ?rest2; (case hi2 => simp only [List.getElem?_toArray, List.getElem?_cons_zero, List.getElem?_cons_succ]; rfl); (case hQ2 => exact fun _ _ _ h => h); (case hy2 => refine Or.inl ⟨by rfl, ?_⟩; intro wz hSw; (try dsimp only at hSw); go_simp; try with_reducible rfl); try simp only [Act.put, List.setIfInBounds_toArray, List.set_cons_zero, List.set_cons_succ])
              (refine' wpAnyT_take 6 5 (oi := ?oi3) (v := ?v3) ?hi3 (by kernel_rfl) (by kernel_rfl) (by kernel_rfl) (by kernel_rfl) (by kernel_rfl) (by kernel_rfl) ?hQ3 ?hy3 (by assumption) ?rest3; (case hi3 => simp only [List.getElem?_toArray, List.getElem?_cons_zero, List.getElem?_cons_succ]; rfl); (case hQ3 => exact fun _ _ _ h => h); (case hy3 => refine Or.inl ⟨by rfl, ?_⟩; intro wz hSw; (try dsimp only at hSw); go_simp; try with_reducible rfl); try simp only [Act.put, List.setIfInBounds_toArray, List.set_cons_zero, List.set_cons_succ])
              (refine' wpAnyT_take 6 6 (oi := ?oi4) (v := ?v4) ?hi4 (by kernel_rfl) (by kernel_rfl) (by kernel_rfl) (by kernel_rfl) (by kernel_rfl) (by kernel_rfl) ?hQ4 ?hy4 (by assumption) ?rest4; (case hi4 => simp only [List.getElem?_toArray, List.getElem?_cons_zero, List.getElem?_cons_succ]; rfl); (case hQ4 => exact fun _ _ _ h => h); (case hy4 => refine Or.inl ⟨by rfl, ?_⟩; intro wz hSw; (try dsimp only at hSw); go_simp; try with_reducible rfl); try simp only [Act.put, List.setIfInBounds_toArray, List.set_cons_zero, List.set_cons_succ])
              (refine' wpAnyT_take 6 7 (oi := ?oi5) (v := ?v5) ?hi5 (by kernel_rfl) (by kernel_rfl) (by kernel_rfl) (by kernel_rfl) (by kernel_rfl) (by kernel_rfl) ?hQ5 ?hy5 (by assumption) ?rest5; (case hi5 => simp only [List.getElem?_toArray, List.getElem?_cons_zero, List.getElem?_cons_succ]; rfl); (case hQ5 => exact fun _ _ _ h => h); (case hy5 => refine Or.inl ⟨by rfl, ?_⟩; intro wz hSw; (try dsimp only at hSw); go_simp; try with_reducible rfl); try simp only [Act.put, List.setIfInBounds_toArray, List.set_cons_zero, List.set_cons_succ])
              (refine' wpAnyT_take 6 10 (oi := ?oi6) (v := ?v6) ?hi6 (by kernel_rfl) (by kernel_rfl) (by kernel_rfl) (by kernel_rfl) (by kernel_rfl) (by kernel_rfl) ?hQ6 ?hy6 (by assumption) ?rest6; (case hi6 => simp only [List.getElem?_toArray, List.getElem?_cons_zero, List.getElem?_cons_succ]; rfl); (case hQ6 => exact fun _ _ _ h => h); (case hy6 => refine Or.inl ⟨by rfl, ?_⟩; intro wz hSw; (try dsimp only at hSw); go_simp; try with_reducible rfl); try simp only [Act.put, List.setIfInBounds_toArray, List.set_cons_zero, List.set_cons_succ])
              (refine' wpAnyT_take 6 11 (oi := ?oi7) (v := ?v7) ?hi7 (by kernel_rfl) (by kernel_rfl) (by kernel_rfl) (by kernel_rfl) (by kernel_rfl) (by kernel_rfl) ?hQ7 ?hy7 (by assumption) ?rest7; (case hi7 => simp only [List.getElem?_toArray, List.getElem?_cons_zero, List.getElem?_cons_succ]; rfl); (case hQ7 => exact fun _ _ _ h => h); (case hy7 => refine Or.inl ⟨by rfl, ?_⟩; intro wz hSw; (try dsimp only at hSw); go_simp; try with_reducible rfl); try simp only [Act.put, List.setIfInBounds_toArray, List.set_cons_zero, List.set_cons_succ])
              (refine' wpAnyT_take 6 12 (oi := ?oi8) (v := ?v8) ?hi8 (by kernel_rfl) (by kernel_rfl) (by kernel_rfl) (by kernel_rfl) (by kernel_rfl) (by kernel_rfl) ?hQ8 ?hy8 (by assumption) ?rest8; (case hi8 => simp only [List.getElem?_toArray, List.getElem?_cons_zero, List.getElem?_cons_succ]; rfl); (case hQ8 => exact fun _ _ _ h => h); (case hy8 => refine Or.inl ⟨by rfl, ?_⟩; intro wz hSw; (try dsimp only at hSw); go_simp; try with_reducible rfl); try simp only [Act.put, List.setIfInBounds_toArray, List.set_cons_zero, List.set_cons_succ])
              (refine' wpAnyT_take 6 13 (oi := ?oi9) (v := ?v9) ?hi9 (by kernel_rfl) (by kernel_rfl) (by kernel_rfl) (by kernel_rfl) (by kernel_rfl) (by kernel_rfl) ?hQ9 ?hy9 (by assumption) ?rest9; (case hi9 => simp only [List.getElem?_toArray, List.getElem?_cons_zero, List.getElem?_cons_succ]; rfl); (case hQ9 => exact fun _ _ _ h => h); (case hy9 => refine Or.inl ⟨by rfl, ?_⟩; intro wz hSw; (try dsimp only at hSw); go_simp; try with_reducible rfl); try simp only [Act.put, List.setIfInBounds_toArray, List.set_cons_zero, List.set_cons_succ])
              (refine' wpAnyT_take 6 14 (oi := ?oi10) (v := ?v10) ?hi10 (by kernel_rfl) (by kernel_rfl) (by kernel_rfl) (by kernel_rfl) (by kernel_rfl) (by kernel_rfl) ?hQ10 ?hy10 (by assumption) ?rest10; (case hi10 => simp only [List.getElem?_toArray, List.getElem?_cons_zero, List.getElem?_cons_succ]; rfl); (case hQ10 => exact fun _ _ _ h => h); (case hy10 => refine Or.inl ⟨by rfl, ?_⟩; intro wz hSw; (try dsimp only at hSw); go_simp; try with_reducible rfl); try simp only [Act.put, List.setIfInBounds_toArray, List.set_cons_zero, List.set_cons_succ])
              (refine' wpAnyT_take 6 17 (oi := ?oi11) (v := ?v11) ?hi11 (by kernel_rfl) (by kernel_rfl) (by kernel_rfl) (by kernel_rfl) (by kernel_rfl) (by kernel_rfl) ?hQ11 ?hy11 (by assumption) ?rest11; (case hi11 => simp only [List.getElem?_toArray, List.getElem?_cons_zero, List.getElem?_cons_succ]; rfl); (case hQ11 => exact fun _ _ _ h => h); (case hy11 => refine Or.inl ⟨by rfl, ?_⟩; intro wz hSw; (try dsimp only at hSw); go_simp; try with_reducible rfl); try simp only [Act.put, List.setIfInBounds_toArray, List.set_cons_zero, List.set_cons_succ])
              (refine' wpAnyT_take 6 18 (oi := ?oi12) (v := ?v12) ?hi12 (by kernel_rfl) (by kernel_rfl) (by kernel_rfl) (by kernel_rfl) (by kernel_rfl) (by kernel_rfl) ?hQ12 ?hy12 (by assumption) ?rest12; (case hi12 => simp only [List.getElem?_toArray, List.getElem?_cons_zero, List.getElem?_cons_succ]; rfl); (case hQ12 => exact fun _ _ _ h => h); (case hy12 => refine Or.inl ⟨by rfl, ?_⟩; intro wz hSw; (try dsimp only at hSw); go_simp; try with_reducible rfl); try simp only [Act.put, List.setIfInBounds_toArray, List.set_cons_zero, List.set_cons_succ])
              (refine' wpAnyT_take 6 19 (oi := ?oi13) (v := ?v13) ?hi13 (by kernel_rfl) (by kernel_rfl) (by kernel_rfl) (by kernel_rfl) (by kernel_rfl) (by kernel_rfl) ?hQ13 ?hy13 (by assumption) ?rest13; (case hi13 => simp only [List.getElem?_toArray, List.getElem?_cons_zero, List.getElem?_cons_succ]; rfl); (case hQ13 => exact fun _ _ _ h => h); (case hy13 => refine Or.inl ⟨by rfl, ?_⟩; intro wz hSw; (try dsimp only at hSw); go_simp; try with_reducible rfl); try simp only [Act.put, List.setIfInBounds_toArray, List.set_cons_zero, List.set_cons_succ])
              (refine' wpAnyT_take 6 20 (oi := ?oi14) (v := ?v14) ?hi14 (by kernel_rfl) (by kernel_rfl) (by kernel_rfl) (by kernel_rfl) (by kernel_rfl) (by kernel_rfl) ?hQ14 ?hy14 (by assumption) ?rest14; (case hi14 => simp only [List.getElem?_toArray, List.getElem?_cons_zero, List.getElem?_cons_succ]; rfl); (case hQ14 => exact fun _ _ _ h => h); (case hy14 => refine Or.inl ⟨by rfl, ?_⟩; intro wz hSw; (try dsimp only at hSw); go_simp; try with_reducible rfl); try simp only [Act.put, List.setIfInBounds_toArray, List.set_cons_zero, List.set_cons_succ])
              (refine' wpAnyT_take 6 21 (oi := ?oi15) (v := ?v15) ?hi15 (by kernel_rfl) (by kernel_rfl) (by kernel_rfl) (by kernel_rfl) (by kernel_rfl) (by kernel_rfl) ?hQ15 ?hy15 (by assumption) ?rest15; (case hi15 => simp only [List.getElem?_toArray, List.getElem?_cons_zero, List.getElem?_cons_succ]; rfl); (case hQ15 => exact fun _ _ _ h => h); (case hy15 => refine Or.inl ⟨by rfl, ?_⟩; intro wz hSw; (try dsimp only at hSw); go_simp; try with_reducible rfl); try simp only [Act.put, List.setIfInBounds_toArray, List.set_cons_zero, List.set_cons_succ])
              clear hHeld
              refine tail_cut (fun L1 L2 L3 g1 cap1 g2 cap2 g3 cap3 Y => R3 ⟨w, kv, .slice (some ⟨b', off, none⟩) l.ps.length scap, v1, v2, v3, b8, .int .u8 (hv0 P 0), .int .u8 (hv0 P 1), .int .u8 (hv0 P 2), .int .u8 (hv0 P 3), .int .i64 (besV l.ps P 0), .int .i64 (besV l.ps P 1), .int .i64 (besV l.ps P 2), .int .i64 (besV l.ps P 3)⟩ Y [] (.slice (some ⟨g1, 0, none⟩) (k + 1) cap1) (.slice (some ⟨g2, 0, none⟩) (k + 1) cap2) (.slice (some ⟨g3, 0, none⟩) (k + 1) cap3) (k + 1) (k + 1) (k + 1) (flat canC (l.ps.take k) ++ Array.toList #[.int .u8 cv]) (flat hitC (l.ps.take k) ++ Array.toList #[.int .u8 (hv0 P 0), .int .u8 (hv0 P 1), .int .u8 (hv0 P 2), .int .u8 (hv0 P 3)]) (flat (besC l.ps) (l.ps.take k) ++ Array.toList #[.int .i64 (besV l.ps P 0), .int .i64 (besV l.ps P 1), .int .i64 (besV l.ps P 2), .int .i64 (besV l.ps P 3)])) (fun L1 L2 L3 g1 cap1 g2 cap2 g3 cap3 a => (((((a.put (some 92) (.slice (some ⟨L1, 0, none⟩) 1 1)).put (some 93) (.slice (some ⟨g1, 0, none⟩) (k + 1) cap1)).put (some 99) (.slice (some ⟨L2, 0, none⟩) 1 1)).put (some 100) (.slice (some ⟨g2, 0, none⟩) (k + 1) cap2)).put (some 106) (.slice (some ⟨L3, 0, none⟩) 1 1)).put (some 107) (.slice (some ⟨g3, 0, none⟩) (k + 1) cap3)) 9 (fun q => (((((q.setIfInBounds 8 true).setIfInBounds 9 true).setIfInBounds 15 true).setIfInBounds 16 true).setIfInBounds 22 true).setIfInBounds 23 true) ?tailQ (fun TAIL => ?mainQ)
              case mainQ =>
                simp only [Act.put, List.setIfInBounds_toArray, List.set_cons_zero, List.set_cons_succ] at TAIL
                refine wpAnyT_ready (rs := [8, 15, 22]) (by kernel_rfl) (by simp) ?_
                (refine' AllReadyT.cons (o := ?o19) ?ho19 (fun K hK => ?step19) ?more19; (case ho19 => simp only [List.getElem?_toArray, List.getElem?_cons_zero, List.getElem?_cons_succ]; rfl))
                · go_simp
                  have RR := RR.lit #[.int .u8 cv] 94
                  obtain ⟨Y1, hY⟩ : ∃ Y, Y = Y0.alloc (.cells #[.int .u8 cv] 94) := ⟨_, rfl⟩
                  rw [← hY] at RR ⊢
                  clear hY
                  obtain ⟨L1, hL⟩ : ∃ L, L = Y0.heap.size := ⟨_, rfl⟩
                  rw [← hL] at RR ⊢
                  clear hL
                  refine hK.out _ _ (fun _ _ => RR.S) (fun hHeld => ?_)
                  clear hK K
                  try simp only [Act.put, List.setIfInBounds_toArray, List.set_cons_zero, List.set_cons_succ]
                  refine wpAnyT_ready (rs := [9, 15, 22]) (by kernel_rfl) (by simp) ?_
                  (refine' AllReadyT.cons (o := ?o20) ?ho20 (fun K hK => ?step20) ?more20; (case ho20 => simp only [List.getElem?_toArray, List.getElem?_cons_zero, List.getElem?_cons_succ]; rfl))
                  · refine step_append_lies _ (by rfl) _ _ _ (by rfl) (w.heap.size + 2) 94 i1 _ 1 1 Try.underlying88 hi1 hiz1 hix1 hiy1 rfl (by omega) v1 k (flat canC (l.ps.take k)) (by rfl) RR.r1 ⟨L1, 0, none⟩ 1 1 (Array.toList #[.int .u8 cv]) (by rfl) (by rfl) (World.news_of_block (RR.lits (L1, #[.int .u8 cv], 94) (by simp)).2) HONE.out (by omega) (by unfold maxLen; omega) (by omega) (by have : b8 + 1 + 1 < Y1.heap.size := (RR.o11.lt _ rfl).2; omega) _ rfl ?_
                    intro g1 cap1 Y2 hown hgrow hat hlt1
                    have RR := RR.app1 hl1 hown hgrow hat
                    clear hown hgrow hat
                    refine hK.out _ _ (fun _ _ => RR.S) (fun hHeld => ?_)
                    clear hK K
                    try simp only [Act.put, List.setIfInBounds_toArray, List.set_cons_zero, List.set_cons_succ]
                    refine wpAnyT_ready (rs := [15, 22]) (by kernel_rfl) (by simp) ?_
                    (refine' AllReadyT.cons (o := ?o21) ?ho21 (fun K hK => ?step21) ?more21; (case ho21 => simp only [List.getElem?_toArray, List.getElem?_cons_zero, List.getElem?_cons_succ]; rfl))
                    · go_simp
                      have RR := RR.lit #[.int .u8 (hv0 P 0), .int .u8 (hv0 P 1), .int .u8 (hv0 P 2), .int .u8 (hv0 P 3)] 95
                      obtain ⟨Y3, hY⟩ : ∃ Y, Y = Y2.alloc (.cells #[.int .u8 (hv0 P 0), .int .u8 (hv0 P 1), .int .u8 (hv0 P 2), .int .u8 (hv0 P 3)] 95) := ⟨_, rfl⟩
                      rw [← hY] at RR ⊢
                      clear hY
                      obtain ⟨L2, hL⟩ : ∃ L, L = Y2.heap.size := ⟨_, rfl⟩
                      rw [← hL] at RR ⊢
                      clear hL
                      refine hK.out _ _ (fun _ _ => RR.S) (fun hHeld => ?_)
                      clear hK K
                      try simp only [Act.put, List.setIfInBounds_toArray, List.set_cons_zero, List.set_cons_succ]
                      refine wpAnyT_ready (rs := [16, 22]) (by kernel_rfl) (by simp) ?_
                      (refine' AllReadyT.cons (o := ?o22) ?ho22 (fun K hK => ?step22) ?more22; (case ho22 => simp only [List.getElem?_toArray, List.getElem?_cons_zero, List.getElem?_cons_succ]; rfl))
                      · refine step_append_lies _ (by rfl) _ _ _ (by rfl) (w.heap.size + 2) 95 i2 _ 4 4 Try.underlying89 hi2 hiz2 hix2 hiy2 rfl (by omega) v2 k (flat hitC (l.ps.take k)) (by rfl) RR.r2 ⟨L2, 0, none⟩ 1 1 (Array.toList #[.int .u8 (hv0 P 0), .int .u8 (hv0 P 1), .int .u8 (hv0 P 2), .int .u8 (hv0 P 3)]) (by rfl) (by rfl) (World.news_of_block (RR.lits (L2, #[.int .u8 (hv0 P 0), .int .u8 (hv0 P 1), .int .u8 (hv0 P 2), .int .u8 (hv0 P 3)], 95) (by simp)).2) (hitC_one P) (by omega) (by unfold maxLen; omega) (by omega) (by have : b8 + 1 + 1 < Y3.heap.size := (RR.o11.lt _ rfl).2; omega) _ rfl ?_
                        intro g2 cap2 Y4 hown hgrow hat hlt2
                        have RR := RR.app2 hl2 hown hgrow hat
                        clear hown hgrow hat
                        refine hK.out _ _ (fun _ _ => RR.S) (fun hHeld => ?_)
                        clear hK K
                        try simp only [Act.put, List.setIfInBounds_toArray, List.set_cons_zero, List.set_cons_succ]
                        refine wpAnyT_ready (rs := [22]) (by kernel_rfl) (by simp) ?_
                        (refine' AllReadyT.cons (o := ?o33) ?ho33 (fun K hK => ?step33) AllReadyT.nil; (case ho33 => simp only [List.getElem?_toArray, List.getElem?_cons_zero, List.getElem?_cons_succ]; rfl))
                        go_simp
                        have RR := RR.lit #[.int .i64 (besV l.ps P 0), .int .i64 (besV l.ps P 1), .int .i64 (besV l.ps P 2), .int .i64 (besV l.ps P 3)] 96
                        obtain ⟨Y5, hY⟩ : ∃ Y, Y = Y4.alloc (.cells #[.int .i64 (besV l.ps P 0), .int .i64 (besV l.ps P 1), .int .i64 (besV l.ps P 2), .int .i64 (besV l.ps P 3)] 96) := ⟨_, rfl⟩
                        rw [← hY] at RR ⊢
                        clear hY
                        obtain ⟨L3, hL⟩ : ∃ L, L = Y4.heap.size := ⟨_, rfl⟩
                        rw [← hL] at RR ⊢
                        clear hL
                        refine hK.out _ _ (fun _ _ => RR.S) (fun hHeld => ?_)
                        clear hK K
                        try simp only [Act.put, List.setIfInBounds_toArray, List.set_cons_zero, List.set_cons_succ]
                        refine wpAnyT_ready (rs := [23]) (by kernel_rfl) (by simp) ?_
                        (refine' AllReadyT.cons (o := ?o34) ?ho34 (fun K hK => ?step34) AllReadyT.nil; (case ho34 => simp only [List.getElem?_toArray, List.getElem?_cons_zero, List.getElem?_cons_succ]; rfl))
                        refine step_append_lies _ (by rfl) _ _ _ (by rfl) (w.heap.size + 2) 96 i3 _ 4 32 Try.underlying90 hi3 hiz3 hix3 hiy3 rfl (by omega) v3 k (flat (besC l.ps) (l.ps.take k)) (by rfl) RR.r3 ⟨L3, 0, none⟩ 1 1 (Array.toList #[.int .i64 (besV l.ps P 0), .int .i64 (besV l.ps P 1), .int .i64 (besV l.ps P 2), .int .i64 (besV l.ps P 3)]) (by rfl) (by rfl) (World.news_of_block (RR.lits (L3, #[.int .i64 (besV l.ps P 0), .int .i64 (besV l.ps P 1), .int .i64 (besV l.ps P 2), .int .i64 (besV l.ps P 3)], 96) (by simp)).2) (besC_one l.ps P) (by omega) (by unfold maxLen; omega) (by omega) (by have : b8 + 1 + 1 < Y5.heap.size := (RR.o11.lt _ rfl).2; omega) _ rfl ?_
                        intro g3 cap3 Y6 hown hgrow hat hlt3
                        have RR := RR.app3 hl3 hown hgrow hat
                        clear hown hgrow hat
                        refine hK.out _ _ (fun _ _ => RR.S) (fun hHeld => ?_)
                        clear hK K
                        try simp only [Act.put, List.setIfInBounds_toArray, List.set_cons_zero, List.set_cons_succ]
                        exact TAIL L1 L2 L3 g1 cap1 g2 cap2 g3 cap3 Y6 RR.forget
                      (refine' AllReadyT.cons (o := ?o35) ?ho35 (fun K hK => ?step35) AllReadyT.nil; (case ho35 => simp only [List.getElem?_toArray, List.getElem?_cons_zero, List.getElem?_cons_succ]; rfl))
                      go_simp
                      have RR := RR.lit #[.int .i64 (besV l.ps P 0), .int .i64 (besV l.ps P 1), .int .i64 (besV l.ps P 2), .int .i64 (besV l.ps P 3)] 96
                      obtain ⟨Y4, hY⟩ : ∃ Y, Y = Y3.alloc (.cells #[.int .i64 (besV l.ps P 0), .int .i64 (besV l.ps P 1), .int .i64 (besV l.ps P 2), .int .i64 (besV l.ps P 3)] 96) := ⟨_, rfl⟩
                      rw [← hY] at RR ⊢
                      clear hY
                      obtain ⟨L3, hL⟩ : ∃ L, L = Y3.heap.size := ⟨_, rfl⟩
                      rw [← hL] at RR ⊢
                      clear hL
                      refine hK.out _ _ (fun _ _ => RR.S) (fun hHeld => ?_)
                      clear hK K
                      try simp only [Act.put, List.setIfInBounds_toArray, List.set_cons_zero, List.set_cons_succ]
                      refine wpAnyT_ready (rs := [16]) (by kernel_rfl) (by simp) ?_
                      (refine' AllReadyT.cons (o := ?o36) ?ho36 (fun K hK => ?step36) AllReadyT.nil; (case ho36 => simp only [List.getElem?_toArray, List.getElem?_cons_zero, List.getElem?_cons_succ]; rfl))
                      refine step_append_lies _ (by rfl) _ _ _ (by rfl) (w.heap.size + 2) 95 i2 _ 4 4 Try.underlying89 hi2 hiz2 hix2 hiy2 rfl (by omega) v2 k (flat hitC (l.ps.take k)) (by rfl) RR.r2 ⟨L2, 0, none⟩ 1 1 (Array.toList #[.int .u8 (hv0 P 0), .int .u8 (hv0 P 1), .int .u8 (hv0 P 2), .int .u8 (hv0 P 3)]) (by rfl) (by rfl) (World.news_of_block (RR.lits (L2, #[.int .u8 (hv0 P 0), .int .u8 (hv0 P 1), .int .u8 (hv0 P 2), .int .u8 (hv0 P 3)], 95) (by simp)).2) (hitC_one P) (by omega) (by unfold maxLen; omega) (by omega) (by have : b8 + 1 + 1 < Y4.heap.size := (RR.o11.lt _ rfl).2; omega) _ rfl ?_
                      intro g2 cap2 Y5 hown hgrow hat hlt2
                      have RR := RR.app2 hl2 hown hgrow hat
                      clear hown hgrow hat
                      refine hK.out _ _ (fun _ _ => RR.S) (fun hHeld => ?_)
                      clear hK K
                      try simp only [Act.put, List.setIfInBounds_toArray, List.set_cons_zero, List.set_cons_succ]
                      refine wpAnyT_ready (rs := [23]) (by kernel_rfl) (by simp) ?_
                      (refine' AllReadyT.cons (o := ?o37) ?ho37 (fun K hK => ?step37) AllReadyT.nil; (case ho37 => simp only [List.getElem?_toArray, List.getElem?_cons_zero, List.getElem?_cons_succ]; rfl))
                      refine step_append_lies _ (by rfl) _ _ _ (by rfl) (w.heap.size + 2) 96 i3 _ 4 32 Try.underlying90 hi3 hiz3 hix3 hiy3 rfl (by omega) v3 k (flat (besC l.ps) (l.ps.take k)) (by rfl) RR.r3 ⟨L3, 0, none⟩ 1 1 (Array.toList #[.int .i64 (besV l.ps P 0), .int .i64 (besV l.ps P 1), .int .i64 (besV l.ps P 2), .int .i64 (besV l.ps P 3)]) (by rfl) (by rfl) (World.news_of_block (RR.lits (L3, #[.int .i64 (besV l.ps P 0), .int .i64 (besV l.ps P 1), .int .i64 (besV l.ps P 2), .int .i64 (besV l.ps P 3)], 96) (by simp)).2) (besC_one l.ps P) (by omega) (by unfold maxLen; omega) (by omega) (by have : b8 + 1 + 1 < Y5.heap.size := (RR.o11.lt _ rfl).2; omega) _ rfl ?_
                      intro g3 cap3 Y6 hown hgrow hat hlt3
                      have RR := RR.app3 hl3 hown hgrow hat
                      clear hown hgrow hat
                      refine hK.out _ _ (fun _ _ => RR.S) (fun hHeld => ?_)
                      clear hK K
                      try simp only [Act.put, List.setIfInBounds_toArray, List.set_cons_zero, List.set_cons_succ]
                      exact TAIL L1 L2 L3 g1 cap1 g2 cap2 g3 cap3 Y6 RR.forget
                    (refine' AllReadyT.cons (o := ?o38) ?ho38 (fun K hK => ?step38) AllReadyT.nil; (case ho38 => simp only [List.getElem?_toArray, List.getElem?_cons_zero, List.getElem?_cons_succ]; rfl))
                    go_simp
                    have RR := RR.lit #[.int .i64 (besV l.ps P 0), .int .i64 (besV l.ps P 1), .int .i64 (besV l.ps P 2), .int .i64 (besV l.ps P 3)] 96
                    obtain ⟨Y3, hY⟩ : ∃ Y, Y = Y2.alloc (.cells #[.int .i64 (besV l.ps P 0), .int .i64 (besV l.ps P 1), .int .i64 (besV l.ps P 2), .int .i64 (besV l.ps P 3)] 96) := ⟨_, rfl⟩
                    rw [← hY] at RR ⊢
                    clear hY
                    obtain ⟨L3, hL⟩ : ∃ L, L = Y2.heap.size := ⟨_, rfl⟩
                    rw [← hL] at RR ⊢
                    clear hL
                    refine hK.out _ _ (fun _ _ => RR.S) (fun hHeld => ?_)
                    clear hK K
                    try simp only [Act.put, List.setIfInBounds_toArray, List.set_cons_zero, List.set_cons_succ]
                    refine wpAnyT_ready (rs := [15]) (by kernel_rfl) (by simp) ?_
                    (refine' AllReadyT.cons (o := ?o39) ?ho39 (fun K hK => ?step39) AllReadyT.nil; (case ho39 => simp only [List.getElem?_toArray, List.getElem?_cons_zero, List.getElem?_cons_succ]; rfl))
                    go_simp
                    have RR := RR.lit #[.int .u8 (hv0 P 0), .int .u8 (hv0 P 1), .int .u8 (hv0 P 2), .int .u8 (hv0 P 3)] 95
                    obtain ⟨Y4, hY⟩ : ∃ Y, Y = Y3.alloc (.cells #[.int .u8 (hv0 P 0), .int .u8 (hv0 P 1), .int .u8 (hv0 P 2), .int .u8 (hv0 P 3)] 95) := ⟨_, rfl⟩
                    rw [← hY] at RR ⊢
                    clear hY
                    obtain ⟨L2, hL⟩ : ∃ L, L = Y3.heap.size := ⟨_, rfl⟩
                    rw [← hL] at RR ⊢
                    clear hL
                    refine hK.out _ _ (fun _ _ => RR.S) (fun hHeld => ?_)
                    clear hK K
                    try simp only [Act.put, List.setIfInBounds_toArray, List.set_cons_zero, List.set_cons_succ]
                    refine wpAnyT_ready (rs := [16]) (by kernel_rfl) (by simp) ?_
                    (refine' AllReadyT.cons (o := ?o40) ?ho40 (fun K hK => ?step40) AllReadyT.nil; (case ho40 => simp only [List.getElem?_toArray, List.getElem?_cons_zero, List.getElem?_cons_succ]; rfl))
                    refine step_append_lies _ (by rfl) _ _ _ (by rfl) (w.heap.size + 2) 95 i2 _ 4 4 Try.underlying89 hi2 hiz2 hix2 hiy2 rfl (by omega) v2 k (flat hitC (l.ps.take k)) (by rfl) RR.r2 ⟨L2, 0, none⟩ 1 1 (Array.toList #[.int .u8 (hv0 P 0), .int .u8 (hv0 P 1), .int .u8 (hv0 P 2), .int .u8 (hv0 P 3)]) (by rfl) (by rfl) (World.news_of_block (RR.lits (L2, #[.int .u8 (hv0 P 0), .int .u8 (hv0 P 1), .int .u8 (hv0 P 2), .int .u8 (hv0 P 3)], 95) (by simp)).2) (hitC_one P) (by omega) (by unfold maxLen; omega) (by omega) (by have : b8 + 1 + 1 < Y4.heap.size := (RR.o11.lt _ rfl).2; omega) _ rfl ?_
                    intro g2 cap2 Y5 hown hgrow hat hlt2
                    have RR := RR.app2 hl2 hown hgrow hat
                    clear hown hgrow hat
                    refine hK.out _ _ (fun _ _ => RR.S) (fun hHeld => ?_)
                    clear hK K
                    try simp only [Act.put, List.setIfInBounds_toArray, List.set_cons_zero, List.set_cons_succ]
                    refine wpAnyT_ready (rs := [23]) (by kernel_rfl) (by simp) ?_
                    (refine' AllReadyT.cons (o := ?o41) ?ho41 (fun K hK => ?step41) AllReadyT.nil; (case ho41 => simp only [List.getElem?_toArray, List.getElem?_cons_zero, List.getElem?_cons_succ]; rfl))
                    refine step_append_lies _ (by rfl) _ _ _ (by rfl) (w.heap.size + 2) 96 i3 _ 4 32 Try.underlying90 hi3 hiz3 hix3 hiy3 rfl (by omega) v3 k (flat (besC l.ps) (l.ps.take k)) (by rfl) RR.r3 ⟨L3, 0, none⟩ 1 1 (Array.toList #[.int .i64 (besV l.ps P 0), .int .i64 (besV l.ps P 1), .int .i64 (besV l.ps P 2), .int .i64 (besV l.ps P 3)]) (by rfl) (by rfl) (World.news_of_block (RR.lits (L3, #[.int .i64 (besV l.ps P 0), .int .i64 (besV l.ps P 1), .int .i64 (besV l.ps P 2), .int .i64 (besV l.ps P 3)], 96) (by simp)).2) (besC_one l.ps P) (by omega) (by unfold maxLen; omega) (by omega) (by have : b8 + 1 + 1 < Y5.heap.size := (RR.o11.lt _ rfl).2; omega) _ rfl ?_
                    intro g3 cap3 Y6 hown hgrow hat hlt3
                    have RR := RR.app3 hl3 hown hgrow hat
                    clear hown hgrow hat
                    refine hK.out _ _ (fun _ _ => RR.S) (fun hHeld => ?_)
                    clear hK K
                    try simp only [Act.put, List.setIfInBounds_toArray, List.set_cons_zero, List.set_cons_succ]
                    exact TAIL L1 L2 L3 g1 cap1 g2 cap2 g3 cap3 Y6 RR.forget
                  (refine' AllReadyT.cons (o := ?o23) ?ho23 (fun K hK => ?step23) ?more23; (case ho23 => simp only [List.getElem?_toArray, List.getElem?_cons_zero, List.getElem?_cons_succ]; rfl))
                  · go_simp
                    have RR := RR.lit #[.int .u8 (hv0 P 0), .int .u8 (hv0 P 1), .int .u8 (hv0 P 2), .int .u8 (hv0 P 3)] 95
                    obtain ⟨Y2, hY⟩ : ∃ Y, Y = Y1.alloc (.cells #[.int .u8 (hv0 P 0), .int .u8 (hv0 P 1), .int .u8 (hv0 P 2), .int .u8 (hv0 P 3)] 95) := ⟨_, rfl⟩
                    rw [← hY] at RR ⊢
                    clear hY
                    obtain ⟨L2, hL⟩ : ∃ L, L = Y1.heap.size := ⟨_, rfl⟩
                    rw [← hL] at RR ⊢
                    clear hL
                    refine hK.out _ _ (fun _ _ => RR.S) (fun hHeld => ?_)
                    clear hK K
                    try simp only [Act.put, List.setIfInBounds_toArray, List.set_cons_zero, List.set_cons_succ]
                    refine wpAnyT_ready (rs := [9, 22]) (by kernel_rfl) (by simp) ?_
                    (refine' AllReadyT.cons (o := ?o24) ?ho24 (fun K hK => ?step24) ?more24; (case ho24 => simp only [List.getElem?_toArray, List.getElem?_cons_zero, List.getElem?_cons_succ]; rfl))
                    · refine step_append_lies _ (by rfl) _ _ _ (by rfl) (w.heap.size + 2) 94 i1 _ 1 1 Try.underlying88 hi1 hiz1 hix1 hiy1 rfl (by omega) v1 k (flat canC (l.ps.take k)) (by rfl) RR.r1 ⟨L1, 0, none⟩ 1 1 (Array.toList #[.int .u8 cv]) (by rfl) (by rfl) (World.news_of_block (RR.lits (L1, #[.int .u8 cv], 94) (by simp)).2) HONE.out (by omega) (by unfold maxLen; omega) (by omega) (by have : b8 + 1 + 1 < Y2.heap.size := (RR.o11.lt _ rfl).2; omega) _ rfl ?_
                      intro g1 cap1 Y3 hown hgrow hat hlt1
                      have RR := RR.app1 hl1 hown hgrow hat
                      clear hown hgrow hat
                      refine hK.out _ _ (fun _ _ => RR.S) (fun hHeld => ?_)
                      clear hK K
                      try simp only [Act.put, List.setIfInBounds_toArray, List.set_cons_zero, List.set_cons_succ]
                      refine wpAnyT_ready (rs := [16, 22]) (by kernel_rfl) (by simp) ?_
                      (refine' AllReadyT.cons (o := ?o25) ?ho25 (fun K hK => ?step25) ?more25; (case ho25 => simp only [List.getElem?_toArray, List.getElem?_cons_zero, List.getElem?_cons_succ]; rfl))
                      · refine step_append_lies _ (by rfl) _ _ _ (by rfl) (w.heap.size + 2) 95 i2 _ 4 4 Try.underlying89 hi2 hiz2 hix2 hiy2 rfl (by omega) v2 k (flat hitC (l.ps.take k)) (by rfl) RR.r2 ⟨L2, 0, none⟩ 1 1 (Array.toList #[.int .u8 (hv0 P 0), .int .u8 (hv0 P 1), .int .u8 (hv0 P 2), .int .u8 (hv0 P 3)]) (by rfl) (by rfl) (World.news_of_block (RR.lits (L2, #[.int .u8 (hv0 P 0), .int .u8 (hv0 P 1), .int .u8 (hv0 P 2), .int .u8 (hv0 P 3)], 95) (by simp)).2) (hitC_one P) (by omega) (by unfold maxLen; omega) (by omega) (by have : b8 + 1 + 1 < Y3.heap.size := (RR.o11.lt _ rfl).2; omega) _ rfl ?_
                        intro g2 cap2 Y4 hown hgrow hat hlt2
                        have RR := RR.app2 hl2 hown hgrow hat
                        clear hown hgrow hat
                        refine hK.out _ _ (fun _ _ => RR.S) (fun hHeld => ?_)
                        clear hK K
                        try simp only [Act.put, List.setIfInBounds_toArray, List.set_cons_zero, List.set_cons_succ]
                        refine wpAnyT_ready (rs := [22]) (by kernel_rfl) (by simp) ?_
                        (refine' AllReadyT.cons (o := ?o42) ?ho42 (fun K hK => ?step42) AllReadyT.nil; (case ho42 => simp only [List.getElem?_toArray, List.getElem?_cons_zero, List.getElem?_cons_succ]; rfl))
                        go_simp
                        have RR := RR.lit #[.int .i64 (besV l.ps P 0), .int .i64 (besV l.ps P 1), .int .i64 (besV l.ps P 2), .int .i64 (besV l.ps P 3)] 96
                        obtain ⟨Y5, hY⟩ : ∃ Y, Y = Y4.alloc (.cells #[.int .i64 (besV l.ps P 0), .int .i64 (besV l.ps P 1), .int .i64 (besV l.ps P 2), .int .i64 (besV l.ps P 3)] 96) := ⟨_, rfl⟩
                        rw [← hY] at RR ⊢
                        clear hY
                        obtain ⟨L3, hL⟩ : ∃ L, L = Y4.heap.size := ⟨_, rfl⟩
                        rw [← hL] at RR ⊢
                        clear hL
                        refine hK.out _ _ (fun _ _ => RR.S) (fun hHeld => ?_)
                        clear hK K
                        try simp only [Act.put, List.setIfInBounds_toArray, List.set_cons_zero, List.set_cons_succ]
                        refine wpAnyT_ready (rs := [23]) (by kernel_rfl) (by simp) ?_
                        (refine' AllReadyT.cons (o := ?o43) ?ho43 (fun K hK => ?step43) AllReadyT.nil; (case ho43 => simp only [List.getElem?_toArray, List.getElem?_cons_zero, List.getElem?_cons_succ]; rfl))
                        refine step_append_lies _ (by rfl) _ _ _ (by rfl) (w.heap.size + 2) 96 i3 _ 4 32 Try.underlying90 hi3 hiz3 hix3 hiy3 rfl (by omega) v3 k (flat (besC l.ps) (l.ps.take k)) (by rfl) RR.r3 ⟨L3, 0, none⟩ 1 1 (Array.toList #[.int .i64 (besV l.ps P 0), .int .i64 (besV l.ps P 1), .int .i64 (besV l.ps P 2), .int .i64 (besV l.ps P 3)]) (by rfl) (by rfl) (World.news_of_block (RR.lits (L3, #[.int .i64 (besV l.ps P 0), .int .i64 (besV l.ps P 1), .int .i64 (besV l.ps P 2), .int .i64 (besV l.ps P 3)], 96) (by simp)).2) (besC_one l.ps P) (by omega) (by unfold maxLen; omega) (by omega) (by have : b8 + 1 + 1 < Y5.heap.size := (RR.o11.lt _ rfl).2; omega) _ rfl ?_
                        intro g3 cap3 Y6 hown hgrow hat hlt3
                        have RR := RR.app3 hl3 hown hgrow hat
                        clear hown hgrow hat
                        refine hK.out _ _ (fun _ _ => RR.S) (fun hHeld => ?_)
                        clear hK K
                        try simp only [Act.put, List.setIfInBounds_toArray, List.set_cons_zero, List.set_cons_succ]
                        exact TAIL L1 L2 L3 g1 cap1 g2 cap2 g3 cap3 Y6 RR.forget
                      (refine' AllReadyT.cons (o := ?o44) ?ho44 (fun K hK => ?step44) AllReadyT.nil; (case ho44 => simp only [List.getElem?_toArray, List.getElem?_cons_zero, List.getElem?_cons_succ]; rfl))
                      go_simp
                      have RR := RR.lit #[.int .i64 (besV l.ps P 0), .int .i64 (besV l.ps P 1), .int .i64 (besV l.ps P 2), .int .i64 (besV l.ps P 3)] 96
                      obtain ⟨Y4, hY⟩ : ∃ Y, Y = Y3.alloc (.cells #[.int .i64 (besV l.ps P 0), .int .i64 (besV l.ps P 1), .int .i64 (besV l.ps P 2), .int .i64 (besV l.ps P 3)] 96) := ⟨_, rfl⟩
                      rw [← hY] at RR ⊢
                      clear hY
                      obtain ⟨L3, hL⟩ : ∃ L, L = Y3.heap.size := ⟨_, rfl⟩
                      rw [← hL] at RR ⊢
                      clear hL
                      refine hK.out _ _ (fun _ _ => RR.S) (fun hHeld => ?_)
                      clear hK K
                      try simp only [Act.put, List.setIfInBounds_toArray, List.set_cons_zero, List.set_cons_succ]
                      refine wpAnyT_ready (rs := [16]) (by kernel_rfl) (by simp) ?_
                      (refine' AllReadyT.cons (o := ?o45) ?ho45 (fun K hK => ?step45) AllReadyT.nil; (case ho45 => simp only [List.getElem?_toArray, List.getElem?_cons_zero, List.getElem?_cons_succ]; rfl))
                      refine step_append_lies _ (by rfl) _ _ _ (by rfl) (w.heap.size + 2) 95 i2 _ 4 4 Try.underlying89 hi2 hiz2 hix2 hiy2 rfl (by omega) v2 k (flat hitC (l.ps.take k)) (by rfl) RR.r2 ⟨L2, 0, none⟩ 1 1 (Array.toList #[.int .u8 (hv0 P 0), .int .u8 (hv0 P 1), .int .u8 (hv0 P 2), .int .u8 (hv0 P 3)]) (by rfl) (by rfl) (World.news_of_block (RR.lits (L2, #[.int .u8 (hv0 P 0), .int .u8 (hv0 P 1), .int .u8 (hv0 P 2), .int .u8 (hv0 P 3)], 95) (by simp)).2) (hitC_one P) (by omega) (by unfold maxLen; omega) (by omega) (by have : b8 + 1 + 1 < Y4.heap.size := (RR.o11.lt _ rfl).2; omega) _ rfl ?_
                      intro g2 cap2 Y5 hown hgrow hat hlt2
                      have RR := RR.app2 hl2 hown hgrow hat
                      clear hown hgrow hat
                      refine hK.out _ _ (fun _ _ => RR.S) (fun hHeld => ?_)
                      clear hK K
                      try simp only [Act.put, List.setIfInBounds_toArray, List.set_cons_zero, List.set_cons_succ]
                      refine wpAnyT_ready (rs := [23]) (by kernel_rfl) (by simp) ?_
                      (refine' AllReadyT.cons (o := ?o46) ?ho46 (fun K hK => ?step46) AllReadyT.nil; (case ho46 => simp only [List.getElem?_toArray, List.getElem?_cons_zero, List.getElem?_cons_succ]; rfl))
                      refine step_append_lies _ (by rfl) _ _ _ (by rfl) (w.heap.size + 2) 96 i3 _ 4 32 Try.underlying90 hi3 hiz3 hix3 hiy3 rfl (by omega) v3 k (flat (besC l.ps) (l.ps.take k)) (by rfl) RR.r3 ⟨L3, 0, none⟩ 1 1 (Array.toList #[.int .i64 (besV l.ps P 0), .int .i64 (besV l.ps P 1), .int .i64 (besV l.ps P 2), .int .i64 (besV l.ps P 3)]) (by rfl) (by rfl) (World.news_of_block (RR.lits (L3, #[.int .i64 (besV l.ps P 0), .int .i64 (besV l.ps P 1), .int .i64 (besV l.ps P 2), .int .i64 (besV l.ps P 3)], 96) (by simp)).2) (besC_one l.ps P) (by omega) (by unfold maxLen; omega) (by omega) (by have : b8 + 1 + 1 < Y5.heap.size := (RR.o11.lt _ rfl).2; omega) _ rfl ?_
                      intro g3 cap3 Y6 hown hgrow hat hlt3
                      have RR := RR.app3 hl3 hown hgrow hat
                      clear hown hgrow hat
                      refine hK.out _ _ (fun _ _ => RR.S) (fun hHeld => ?_)
                      clear hK K
                      try simp only [Act.put, List.setIfInBounds_toArray, List.set_cons_zero, List.set_cons_succ]
                      exact TAIL L1 L2 L3 g1 cap1 g2 cap2 g3 cap3 Y6 RR.forget
                    (refine' AllReadyT.cons (o := ?o47) ?ho47 (fun K hK => ?step47) AllReadyT.nil; (case ho47 => simp only [List.getElem?_toArray, List.getElem?_cons_zero, List.getElem?_cons_succ]; rfl))
                    go_simp
                    have RR := RR.lit #[.int .i64 (besV l.ps P 0), .int .i64 (besV l.ps P 1), .int .i64 (besV l.ps P 2), .int .i64 (besV l.ps P 3)] 96
                    obtain ⟨Y3, hY⟩ : ∃ Y, Y = Y2.alloc (.cells #[.int .i64 (besV l.ps P 0), .int .i64 (besV l.ps P 1), .int .i64 (besV l.ps P 2), .int .i64 (besV l.ps P 3)] 96) := ⟨_, rfl⟩
                    rw [← hY] at RR ⊢
                    clear hY
                    obtain ⟨L3, hL⟩ : ∃ L, L = Y2.heap.size := ⟨_, rfl⟩
                    rw [← hL] at RR ⊢
                    clear hL
                    refine hK.out _ _ (fun _ _ => RR.S) (fun hHeld => ?_)
                    clear hK K
                    try simp only [Act.put, List.setIfInBounds_toArray, List.set_cons_zero, List.set_cons_succ]
                    refine wpAnyT_ready (rs := [9]) (by kernel_rfl) (by simp) ?_
                    (refine' AllReadyT.cons (o := ?o48) ?ho48 (fun K hK => ?step48) AllReadyT.nil; (case ho48 => simp only [List.getElem?_toArray, List.getElem?_cons_zero, List.getElem?_cons_succ]; rfl))
                    refine step_append_lies _ (by rfl) _ _ _ (by rfl) (w.heap.size + 2) 94 i1 _ 1 1 Try.underlying88 hi1 hiz1 hix1 hiy1 rfl (by omega) v1 k (flat canC (l.ps.take k)) (by rfl) RR.r1 ⟨L1, 0, none⟩ 1 1 (Array.toList #[.int .u8 cv]) (by rfl) (by rfl) (World.news_of_block (RR.lits (L1, #[.int .u8 cv], 94) (by simp)).2) HONE.out (by omega) (by unfold maxLen; omega) (by omega) (by have : b8 + 1 + 1 < Y3.heap.size := (RR.o11.lt _ rfl).2; omega) _ rfl ?_
                    intro g1 cap1 Y4 hown hgrow hat hlt1
                    have RR := RR.app1 hl1 hown hgrow hat
                    clear hown hgrow hat
                    refine hK.out _ _ (fun _ _ => RR.S) (fun hHeld => ?_)
                    clear hK K
                    try simp only [Act.put, List.setIfInBounds_toArray, List.set_cons_zero, List.set_cons_succ]
                    refine wpAnyT_ready (rs := [16]) (by kernel_rfl) (by simp) ?_
                    (refine' AllReadyT.cons (o := ?o49) ?ho49 (fun K hK => ?step49) AllReadyT.nil; (case ho49 => simp only [List.getElem?_toArray, List.getElem?_cons_zero, List.getElem?_cons_succ]; rfl))
                    refine step_append_lies _ (by rfl) _ _ _ (by rfl) (w.heap.size + 2) 95 i2 _ 4 4 Try.underlying89 hi2 hiz2 hix2 hiy2 rfl (by omega) v2 k (flat hitC (l.ps.take k)) (by rfl) RR.r2 ⟨L2, 0, none⟩ 1 1 (Array.toList #[.int .u8 (hv0 P 0), .int .u8 (hv0 P 1), .int .u8 (hv0 P 2), .int .u8 (hv0 P 3)]) (by rfl) (by rfl) (World.news_of_block (RR.lits (L2, #[.int .u8 (hv0 P 0), .int .u8 (hv0 P 1), .int .u8 (hv0 P 2), .int .u8 (hv0 P 3)], 95) (by simp)).2) (hitC_one P) (by omega) (by unfold maxLen; omega) (by omega) (by have : b8 + 1 + 1 < Y4.heap.size := (RR.o11.lt _ rfl).2; omega) _ rfl ?_
                    intro g2 cap2 Y5 hown hgrow hat hlt2
                    have RR := RR.app2 hl2 hown hgrow hat
                    clear hown hgrow hat
                    refine hK.out _ _ (fun _ _ => RR.S) (fun hHeld => ?_)
                    clear hK K
                    try simp only [Act.put, List.setIfInBounds_toArray, List.set_cons_zero, List.set_cons_succ]
                    refine wpAnyT_ready (rs := [23]) (by kernel_rfl) (by simp) ?_
                    (refine' AllReadyT.cons (o := ?o50) ?ho50 (fun K hK => ?step50) AllReadyT.nil; (case ho50 => simp only [List.getElem?_toArray, List.getElem?_cons_zero, List.getElem?_cons_succ]; rfl))
                    refine step_append_lies _ (by rfl) _ _ _ (by rfl) (w.heap.size + 2) 96 i3 _ 4 32 Try.underlying90 hi3 hiz3 hix3 hiy3 rfl (by omega) v3 k (flat (besC l.ps) (l.ps.take k)) (by rfl) RR.r3 ⟨L3, 0, none⟩ 1 1 (Array.toList #[.int .i64 (besV l.ps P 0), .int .i64 (besV l.ps P 1), .int .i64 (besV l.ps P 2), .int .i64 (besV l.ps P 3)]) (by rfl) (by rfl) (World.news_of_block (RR.lits (L3, #[.int .i64 (besV l.ps P 0), .int .i64 (besV l.ps P 1), .int .i64 (besV l.ps P 2), .int .i64 (besV l.ps P 3)], 96) (by simp)).2) (besC_one l.ps P) (by omega) (by unfold maxLen; omega) (by omega) (by have : b8 + 1 + 1 < Y5.heap.size := (RR.o11.lt _ rfl).2; omega) _ rfl ?_
                    intro g3 cap3 Y6 hown hgrow hat hlt3
                    have RR := RR.app3 hl3 hown hgrow hat
                    clear hown hgrow hat
                    refine hK.out _ _ (fun _ _ => RR.S) (fun hHeld => ?_)
                    clear hK K
                    try simp only [Act.put, List.setIfInBounds_toArray, List.set_cons_zero, List.set_cons_succ]
                    exact TAIL L1 L2 L3 g1 cap1 g2 cap2 g3 cap3 Y6 RR.forget
                  (refine' AllReadyT.cons (o := ?o51) ?ho51 (fun K hK => ?step51) AllReadyT.nil; (case ho51 => simp only [List.getElem?_toArray, List.getElem?_cons_zero, List.getElem?_cons_succ]; rfl))
                  go_simp
                  have RR := RR.lit #[.int .i64 (besV l.ps P 0), .int .i64 (besV l.ps P 1), .int .i64 (besV l.ps P 2), .int .i64 (besV l.ps P 3)] 96
                  obtain ⟨Y2, hY⟩ : ∃ Y, Y = Y1.alloc (.cells #[.int .i64 (besV l.ps P 0), .int .i64 (besV l.ps P 1), .int .i64 (besV l.ps P 2), .int .i64 (besV l.ps P 3)] 96) := ⟨_, rfl⟩
                  rw [← hY] at RR ⊢
                  clear hY
                  obtain ⟨L3, hL⟩ : ∃ L, L = Y1.heap.size := ⟨_, rfl⟩
                  rw [← hL] at RR ⊢
                  clear hL
                  refine hK.out _ _ (fun _ _ => RR.S) (fun hHeld => ?_)
                  clear hK K
                  try simp only [Act.put, List.setIfInBounds_toArray, List.set_cons_zero, List.set_cons_succ]
                  refine wpAnyT_ready (rs := [9, 15]) (by kernel_rfl) (by simp) ?_
                  (refine' AllReadyT.cons (o := ?o26) ?ho26 (fun K hK => ?step26) ?more26; (case ho26 => simp only [List.getElem?_toArray, List.getElem?_cons_zero, List.getElem?_cons_succ]; rfl))
                  · refine step_append_lies _ (by rfl) _ _ _ (by rfl) (w.heap.size + 2) 94 i1 _ 1 1 Try.underlying88 hi1 hiz1 hix1 hiy1 rfl (by omega) v1 k (flat canC (l.ps.take k)) (by rfl) RR.r1 ⟨L1, 0, none⟩ 1 1 (Array.toList #[.int .u8 cv]) (by rfl) (by rfl) (World.news_of_block (RR.lits (L1, #[.int .u8 cv], 94) (by simp)).2) HONE.out (by omega) (by unfold maxLen; omega) (by omega) (by have : b8 + 1 + 1 < Y2.heap.size := (RR.o11.lt _ rfl).2; omega) _ rfl ?_
                    intro g1 cap1 Y3 hown hgrow hat hlt1
                    have RR := RR.app1 hl1 hown hgrow hat
                    clear hown hgrow hat
                    refine hK.out _ _ (fun _ _ => RR.S) (fun hHeld => ?_)
                    clear hK K
                    try simp only [Act.put, List.setIfInBounds_toArray, List.set_cons_zero, List.set_cons_succ]
                    refine wpAnyT_ready (rs := [15]) (by kernel_rfl) (by simp) ?_
                    (refine' AllReadyT.cons (o := ?o52) ?ho52 (fun K hK => ?step52) AllReadyT.nil; (case ho52 => simp only [List.getElem?_toArray, List.getElem?_cons_zero, List.getElem?_cons_succ]; rfl))
                    go_simp
                    have RR := RR.lit #[.int .u8 (hv0 P 0), .int .u8 (hv0 P 1), .int .u8 (hv0 P 2), .int .u8 (hv0 P 3)] 95
                    obtain ⟨Y4, hY⟩ : ∃ Y, Y = Y3.alloc (.cells #[.int .u8 (hv0 P 0), .int .u8 (hv0 P 1), .int .u8 (hv0 P 2), .int .u8 (hv0 P 3)] 95) := ⟨_, rfl⟩
                    rw [← hY] at RR ⊢
                    clear hY
                    obtain ⟨L2, hL⟩ : ∃ L, L = Y3.heap.size := ⟨_, rfl⟩
                    rw [← hL] at RR ⊢
                    clear hL
                    refine hK.out _ _ (fun _ _ => RR.S) (fun hHeld => ?_)
                    clear hK K
                    try simp only [Act.put, List.setIfInBounds_toArray, List.set_cons_zero, List.set_cons_succ]
                    refine wpAnyT_ready (rs := [16]) (by kernel_rfl) (by simp) ?_
                    (refine' AllReadyT.cons (o := ?o53) ?ho53 (fun K hK => ?step53) AllReadyT.nil; (case ho53 => simp only [List.getElem?_toArray, List.getElem?_cons_zero, List.getElem?_cons_succ]; rfl))
                    refine step_append_lies _ (by rfl) _ _ _ (by rfl) (w.heap.size + 2) 95 i2 _ 4 4 Try.underlying89 hi2 hiz2 hix2 hiy2 rfl (by omega) v2 k (flat hitC (l.ps.take k)) (by rfl) RR.r2 ⟨L2, 0, none⟩ 1 1 (Array.toList #[.int .u8 (hv0 P 0), .int .u8 (hv0 P 1), .int .u8 (hv0 P 2), .int .u8 (hv0 P 3)]) (by rfl) (by rfl) (World.news_of_block (RR.lits (L2, #[.int .u8 (hv0 P 0), .int .u8 (hv0 P 1), .int .u8 (hv0 P 2), .int .u8 (hv0 P 3)], 95) (by simp)).2) (hitC_one P) (by omega) (by unfold maxLen; omega) (by omega) (by have : b8 + 1 + 1 < Y4.heap.size := (RR.o11.lt _ rfl).2; omega) _ rfl ?_
                    intro g2 cap2 Y5 hown hgrow hat hlt2
                    have RR := RR.app2 hl2 hown hgrow hat
                    clear hown hgrow hat
                    refine hK.out _ _ (fun _ _ => RR.S) (fun hHeld => ?_)
                    clear hK K
                    try simp only [Act.put, List.setIfInBounds_toArray, List.set_cons_zero, List.set_cons_succ]
                    refine wpAnyT_ready (rs := [23]) (by kernel_rfl) (by simp) ?_
                    (refine' AllReadyT.cons (o := ?o54) ?ho54 (fun K hK => ?step54) AllReadyT.nil; (case ho54 => simp only [List.getElem?_toArray, List.getElem?_cons_zero, List.getElem?_cons_succ]; rfl))
                    refine step_append_lies _ (by rfl) _ _ _ (by rfl) (w.heap.size + 2) 96 i3 _ 4 32 Try.underlying90 hi3 hiz3 hix3 hiy3 rfl (by omega) v3 k (flat (besC l.ps) (l.ps.take k)) (by rfl) RR.r3 ⟨L3, 0, none⟩ 1 1 (Array.toList #[.int .i64 (besV l.ps P 0), .int .i64 (besV l.ps P 1), .int .i64 (besV l.ps P 2), .int .i64 (besV l.ps P 3)]) (by rfl) (by rfl) (World.news_of_block (RR.lits (L3, #[.int .i64 (besV l.ps P 0), .int .i64 (besV l.ps P 1), .int .i64 (besV l.ps P 2), .int .i64 (besV l.ps P 3)], 96) (by simp)).2) (besC_one l.ps P) (by omega) (by unfold maxLen; omega) (by omega) (by have : b8 + 1 + 1 < Y5.heap.size := (RR.o11.lt _ rfl).2; omega) _ rfl ?_
                    intro g3 cap3 Y6 hown hgrow hat hlt3
                    have RR := RR.app3 hl3 hown hgrow hat
                    clear hown hgrow hat
                    refine hK.out _ _ (fun _ _ => RR.S) (fun hHeld => ?_)
                    clear hK K
                    try simp only [Act.put, List.setIfInBounds_toArray, List.set_cons_zero, List.set_cons_succ]
                    exact TAIL L1 L2 L3 g1 cap1 g2 cap2 g3 cap3 Y6 RR.forget
                  (refine' AllReadyT.cons (o := ?o55) ?ho55 (fun K hK => ?step55) AllReadyT.nil; (case ho55 => simp only [List.getElem?_toArray, List.getElem?_cons_zero, List.getElem?_cons_succ]; rfl))
                  go_simp
                  have RR := RR.lit #[.int .u8 (hv0 P 0), .int .u8 (hv0 P 1), .int .u8 (hv0 P 2), .int .u8 (hv0 P 3)] 95
                  obtain ⟨Y3, hY⟩ : ∃ Y, Y = Y2.alloc (.cells #[.int .u8 (hv0 P 0), .int .u8 (hv0 P 1), .int .u8 (hv0 P 2), .int .u8 (hv0 P 3)] 95) := ⟨_, rfl⟩
                  rw [← hY] at RR ⊢
                  clear hY
                  obtain ⟨L2, hL⟩ : ∃ L, L = Y2.heap.size := ⟨_, rfl⟩
                  rw [← hL] at RR ⊢
                  clear hL
                  refine hK.out _ _ (fun _ _ => RR.S) (fun hHeld => ?_)
                  clear hK K
                  try simp only [Act.put, List.setIfInBounds_toArray, List.set_cons_zero, List.set_cons_succ]
                  refine wpAnyT_ready (rs := [9]) (by kernel_rfl) (by simp) ?_
                  (refine' AllReadyT.cons (o := ?o56) ?ho56 (fun K hK => ?step56) AllReadyT.nil; (case ho56 => simp only [List.getElem?_toArray, List.getElem?_cons_zero, List.getElem?_cons_succ]; rfl))
                  refine step_append_lies _ (by rfl) _ _ _ (by rfl) (w.heap.size + 2) 94 i1 _ 1 1 Try.underlying88 hi1 hiz1 hix1 hiy1 rfl (by omega) v1 k (flat canC (l.ps.take k)) (by rfl) RR.r1 ⟨L1, 0, none⟩ 1 1 (Array.toList #[.int .u8 cv]) (by rfl) (by rfl) (World.news_of_block (RR.lits (L1, #[.int .u8 cv], 94) (by simp)).2) HONE.out (by omega) (by unfold maxLen; omega) (by omega) (by have : b8 + 1 + 1 < Y3.heap.size := (RR.o11.lt _ rfl).2; omega) _ rfl ?_
                  intro g1 cap1 Y4 hown hgrow hat hlt1
                  have RR := RR.app1 hl1 hown hgrow hat
                  clear hown hgrow hat
                  refine hK.out _ _ (fun _ _ => RR.S) (fun hHeld => ?_)
                  clear hK K
                  try simp only [Act.put, List.setIfInBounds_toArray, List.set_cons_zero, List.set_cons_succ]
                  refine wpAnyT_ready (rs := [16]) (by kernel_rfl) (by simp) ?_
                  (refine' AllReadyT.cons (o := ?o57) ?ho57 (fun K hK => ?step57) AllReadyT.nil; (case ho57 => simp only [List.getElem?_toArray, List.getElem?_cons_zero, List.getElem?_cons_succ]; rfl))
                  refine step_append_lies _ (by rfl) _ _ _ (by rfl) (w.heap.size + 2) 95 i2 _ 4 4 Try.underlying89 hi2 hiz2 hix2 hiy2 rfl (by omega) v2 k (flat hitC (l.ps.take k)) (by rfl) RR.r2 ⟨L2, 0, none⟩ 1 1 (Array.toList #[.int .u8 (hv0 P 0), .int .u8 (hv0 P 1), .int .u8 (hv0 P 2), .int .u8 (hv0 P 3)]) (by rfl) (by rfl) (World.news_of_block (RR.lits (L2, #[.int .u8 (hv0 P 0), .int .u8 (hv0 P 1), .int .u8 (hv0 P 2), .int .u8 (hv0 P 3)], 95) (by simp)).2) (hitC_one P) (by omega) (by unfold maxLen; omega) (by omega) (by have : b8 + 1 + 1 < Y4.heap.size := (RR.o11.lt _ rfl).2; omega) _ rfl ?_
                  intro g2 cap2 Y5 hown hgrow hat hlt2
                  have RR := RR.app2 hl2 hown hgrow hat
                  clear hown hgrow hat
                  refine hK.out _ _ (fun _ _ => RR.S) (fun hHeld => ?_)
                  clear hK K
                  try simp only [Act.put, List.setIfInBounds_toArray, List.set_cons_zero, List.set_cons_succ]
                  refine wpAnyT_ready (rs := [23]) (by kernel_rfl) (by simp) ?_
                  (refine' AllReadyT.cons (o := ?o58) ?ho58 (fun K hK => ?step58) AllReadyT.nil; (case ho58 => simp only [List.getElem?_toArray, List.getElem?_cons_zero, List.getElem?_cons_succ]; rfl))
                  refine step_append_lies _ (by rfl) _ _ _ (by rfl) (w.heap.size + 2) 96 i3 _ 4 32 Try.underlying90 hi3 hiz3 hix3 hiy3 rfl (by omega) v3 k (flat (besC l.ps) (l.ps.take k)) (by rfl) RR.r3 ⟨L3, 0, none⟩ 1 1 (Array.toList #[.int .i64 (besV l.ps P 0), .int .i64 (besV l.ps P 1), .int .i64 (besV l.ps P 2), .int .i64 (besV l.ps P 3)]) (by rfl) (by rfl) (World.news_of_block (RR.lits (L3, #[.int .i64 (besV l.ps P 0), .int .i64 (besV l.ps P 1), .int .i64 (besV l.ps P 2), .int .i64 (besV l.ps P 3)], 96) (by simp)).2) (besC_one l.ps P) (by omega) (by unfold maxLen; omega) (by omega) (by have : b8 + 1 + 1 < Y5.heap.size := (RR.o11.lt _ rfl).2; omega) _ rfl ?_
                  intro g3 cap3 Y6 hown hgrow hat hlt3
                  have RR := RR.app3 hl3 hown hgrow hat
                  clear hown hgrow hat
                  refine hK.out _ _ (fun _ _ => RR.S) (fun hHeld => ?_)
                  clear hK K
                  try simp only [Act.put, List.setIfInBounds_toArray, List.set_cons_zero, List.set_cons_succ]
                  exact TAIL L1 L2 L3 g1 cap1 g2 cap2 g3 cap3 Y6 RR.forget
                (refine' AllReadyT.cons (o := ?o27) ?ho27 (fun K hK => ?step27) ?more27; (case ho27 => simp only [List.getElem?_toArray, List.getElem?_cons_zero, List.getElem?_cons_succ]; rfl))
                · go_simp
                  have RR := RR.lit #[.int .u8 (hv0 P 0), .int .u8 (hv0 P 1), .int .u8 (hv0 P 2), .int .u8 (hv0 P 3)] 95
                  obtain ⟨Y1, hY⟩ : ∃ Y, Y = Y0.alloc (.cells #[.int .u8 (hv0 P 0), .int .u8 (hv0 P 1), .int .u8 (hv0 P 2), .int .u8 (hv0 P 3)] 95) := ⟨_, rfl⟩
                  rw [← hY] at RR ⊢
                  clear hY
                  obtain ⟨L2, hL⟩ : ∃ L, L = Y0.heap.size := ⟨_, rfl⟩
                  rw [← hL] at RR ⊢
                  clear hL
                  refine hK.out _ _ (fun _ _ => RR.S) (fun hHeld => ?_)
                  clear hK K
                  try simp only [Act.put, List.setIfInBounds_toArray, List.set_cons_zero, List.set_cons_succ]
                  refine wpAnyT_ready (rs := [8, 22]) (by kernel_rfl) (by simp) ?_
                  (refine' AllReadyT.cons (o := ?o28) ?ho28 (fun K hK => ?step28) ?more28; (case ho28 => simp only [List.getElem?_toArray, List.getElem?_cons_zero, List.getElem?_cons_succ]; rfl))
                  · go_simp
                    have RR := RR.lit #[.int .u8 cv] 94
                    obtain ⟨Y2, hY⟩ : ∃ Y, Y = Y1.alloc (.cells #[.int .u8 cv] 94) := ⟨_, rfl⟩
                    rw [← hY] at RR ⊢
                    clear hY
                    obtain ⟨L1, hL⟩ : ∃ L, L = Y1.heap.size := ⟨_, rfl⟩
                    rw [← hL] at RR ⊢
                    clear hL
                    refine hK.out _ _ (fun _ _ => RR.S) (fun hHeld => ?_)
                    clear hK K
                    try simp only [Act.put, List.setIfInBounds_toArray, List.set_cons_zero, List.set_cons_succ]
                    refine wpAnyT_ready (rs := [9, 22]) (by kernel_rfl) (by simp) ?_
                    (refine' AllReadyT.cons (o := ?o29) ?ho29 (fun K hK => ?step29) ?more29; (case ho29 => simp only [List.getElem?_toArray, List.getElem?_cons_zero, List.getElem?_cons_succ]; rfl))
                    · refine step_append_lies _ (by rfl) _ _ _ (by rfl) (w.heap.size + 2) 94 i1 _ 1 1 Try.underlying88 hi1 hiz1 hix1 hiy1 rfl (by omega) v1 k (flat canC (l.ps.take k)) (by rfl) RR.r1 ⟨L1, 0, none⟩ 1 1 (Array.toList #[.int .u8 cv]) (by rfl) (by rfl) (World.news_of_block (RR.lits (L1, #[.int .u8 cv], 94) (by simp)).2) HONE.out (by omega) (by unfold maxLen; omega) (by omega) (by have : b8 + 1 + 1 < Y2.heap.size := (RR.o11.lt _ rfl).2; omega) _ rfl ?_
                      intro g1 cap1 Y3 hown hgrow hat hlt1
                      have RR := RR.app1 hl1 hown hgrow hat
                      clear hown hgrow hat
                      refine hK.out _ _ (fun _ _ => RR.S) (fun hHeld => ?_)
                      clear hK K
                      try simp only [Act.put, List.setIfInBounds_toArray, List.set_cons_zero, List.set_cons_succ]
                      refine wpAnyT_ready (rs := [16, 22]) (by kernel_rfl) (by simp) ?_
                      (refine' AllReadyT.cons (o := ?o30) ?ho30 (fun K hK => ?step30) ?more30; (case ho30 => simp only [List.getElem?_toArray, List.getElem?_cons_zero, List.getElem?_cons_succ]; rfl))
                      · refine step_append_lies _ (by rfl) _ _ _ (by rfl) (w.heap.size + 2) 95 i2 _ 4 4 Try.underlying89 hi2 hiz2 hix2 hiy2 rfl (by omega) v2 k (flat hitC (l.ps.take k)) (by rfl) RR.r2 ⟨L2, 0, none⟩ 1 1 (Array.toList #[.int .u8 (hv0 P 0), .int .u8 (hv0 P 1), .int .u8 (hv0 P 2), .int .u8 (hv0 P 3)]) (by rfl) (by rfl) (World.news_of_block (RR.lits (L2, #[.int .u8 (hv0 P 0), .int .u8 (hv0 P 1), .int .u8 (hv0 P 2), .int .u8 (hv0 P 3)], 95) (by simp)).2) (hitC_one P) (by omega) (by unfold maxLen; omega) (by omega) (by have : b8 + 1 + 1 < Y3.heap.size := (RR.o11.lt _ rfl).2; omega) _ rfl ?_
                        intro g2 cap2 Y4 hown hgrow hat hlt2
                        have RR := RR.app2 hl2 hown hgrow hat
                        clear hown hgrow hat
                        refine hK.out _ _ (fun _ _ => RR.S) (fun hHeld => ?_)
                        clear hK K
                        try simp only [Act.put, List.setIfInBounds_toArray, List.set_cons_zero, List.set_cons_succ]
                        refine wpAnyT_ready (rs := [22]) (by kernel_rfl) (by simp) ?_
                        (refine' AllReadyT.cons (o := ?o59) ?ho59 (fun K hK => ?step59) AllReadyT.nil; (case ho59 => simp only [List.getElem?_toArray, List.getElem?_cons_zero, List.getElem?_cons_succ]; rfl))
                        go_simp
                        have RR := RR.lit #[.int .i64 (besV l.ps P 0), .int .i64 (besV l.ps P 1), .int .i64 (besV l.ps P 2), .int .i64 (besV l.ps P 3)] 96
                        obtain ⟨Y5, hY⟩ : ∃ Y, Y = Y4.alloc (.cells #[.int .i64 (besV l.ps P 0), .int .i64 (besV l.ps P 1), .int .i64 (besV l.ps P 2), .int .i64 (besV l.ps P 3)] 96) := ⟨_, rfl⟩
                        rw [← hY] at RR ⊢
                        clear hY
                        obtain ⟨L3, hL⟩ : ∃ L, L = Y4.heap.size := ⟨_, rfl⟩
                        rw [← hL] at RR ⊢
                        clear hL
                        refine hK.out _ _ (fun _ _ => RR.S) (fun hHeld => ?_)
                        clear hK K
                        try simp only [Act.put, List.setIfInBounds_toArray, List.set_cons_zero, List.set_cons_succ]
                        refine wpAnyT_ready (rs := [23]) (by kernel_rfl) (by simp) ?_
                        (refine' AllReadyT.cons (o := ?o60) ?ho60 (fun K hK => ?step60) AllReadyT.nil; (case ho60 => simp only [List.getElem?_toArray, List.getElem?_cons_zero, List.getElem?_cons_succ]; rfl))
                        refine step_append_lies _ (by rfl) _ _ _ (by rfl) (w.heap.size + 2) 96 i3 _ 4 32 Try.underlying90 hi3 hiz3 hix3 hiy3 rfl (by omega) v3 k (flat (besC l.ps) (l.ps.take k)) (by rfl) RR.r3 ⟨L3, 0, none⟩ 1 1 (Array.toList #[.int .i64 (besV l.ps P 0), .int .i64 (besV l.ps P 1), .int .i64 (besV l.ps P 2), .int .i64 (besV l.ps P 3)]) (by rfl) (by rfl) (World.news_of_block (RR.lits (L3, #[.int .i64 (besV l.ps P 0), .int .i64 (besV l.ps P 1), .int .i64 (besV l.ps P 2), .int .i64 (besV l.ps P 3)], 96) (by simp)).2) (besC_one l.ps P) (by omega) (by unfold maxLen; omega) (by omega) (by have : b8 + 1 + 1 < Y5.heap.size := (RR.o11.lt _ rfl).2; omega) _ rfl ?_
                        intro g3 cap3 Y6 hown hgrow hat hlt3
                        have RR := RR.app3 hl3 hown hgrow hat
                        clear hown hgrow hat
                        refine hK.out _ _ (fun _ _ => RR.S) (fun hHeld => ?_)
                        clear hK K
                        try simp only [Act.put, List.setIfInBounds_toArray, List.set_cons_zero, List.set_cons_succ]
                        exact TAIL L1 L2 L3 g1 cap1 g2 cap2 g3 cap3 Y6 RR.forget
                      (refine' AllReadyT.cons (o := ?o61) ?ho61 (fun K hK => ?step61) AllReadyT.nil; (case ho61 => simp only [List.getElem?_toArray, List.getElem?_cons_zero, List.getElem?_cons_succ]; rfl))
                      go_simp
                      have RR := RR.lit #[.int .i64 (besV l.ps P 0), .int .i64 (besV l.ps P 1), .int .i64 (besV l.ps P 2), .int .i64 (besV l.ps P 3)] 96
                      obtain ⟨Y4, hY⟩ : ∃ Y, Y = Y3.alloc (.cells #[.int .i64 (besV l.ps P 0), .int .i64 (besV l.ps P 1), .int .i64 (besV l.ps P 2), .int .i64 (besV l.ps P 3)] 96) := ⟨_, rfl⟩
                      rw [← hY] at RR ⊢
                      clear hY
                      obtain ⟨L3, hL⟩ : ∃ L, L = Y3.heap.size := ⟨_, rfl⟩
                      rw [← hL] at RR ⊢
                      clear hL
                      refine hK.out _ _ (fun _ _ => RR.S) (fun hHeld => ?_)
                      clear hK K
                      try simp only [Act.put, List.setIfInBounds_toArray, List.set_cons_zero, List.set_cons_succ]
                      refine wpAnyT_ready (rs := [16]) (by kernel_rfl) (by simp) ?_
                      (refine' AllReadyT.cons (o := ?o62) ?ho62 (fun K hK => ?step62) AllReadyT.nil; (case ho62 => simp only [List.getElem?_toArray, List.getElem?_cons_zero, List.getElem?_cons_succ]; rfl))
                      refine step_append_lies _ (by rfl) _ _ _ (by rfl) (w.heap.size + 2) 95 i2 _ 4 4 Try.underlying89 hi2 hiz2 hix2 hiy2 rfl (by omega) v2 k (flat hitC (l.ps.take k)) (by rfl) RR.r2 ⟨L2, 0, none⟩ 1 1 (Array.toList #[.int .u8 (hv0 P 0), .int .u8 (hv0 P 1), .int .u8 (hv0 P 2), .int .u8 (hv0 P 3)]) (by rfl) (by rfl) (World.news_of_block (RR.lits (L2, #[.int .u8 (hv0 P 0), .int .u8 (hv0 P 1), .int .u8 (hv0 P 2), .int .u8 (hv0 P 3)], 95) (by simp)).2) (hitC_one P) (by omega) (by unfold maxLen; omega) (by omega) (by have : b8 + 1 + 1 < Y4.heap.size := (RR.o11.lt _ rfl).2; omega) _ rfl ?_
                      intro g2 cap2 Y5 hown hgrow hat hlt2
                      have RR := RR.app2 hl2 hown hgrow hat
                      clear hown hgrow hat
                      refine hK.out _ _ (fun _ _ => RR.S) (fun hHeld => ?_)
                      clear hK K
                      try simp only [Act.put, List.setIfInBounds_toArray, List.set_cons_zero, List.set_cons_succ]
                      refine wpAnyT_ready (rs := [23]) (by kernel_rfl) (by simp) ?_
                      (refine' AllReadyT.cons (o := ?o63) ?ho63 (fun K hK => ?step63) AllReadyT.nil; (case ho63 => simp only [List.getElem?_toArray, List.getElem?_cons_zero, List.getElem?_cons_succ]; rfl))
                      refine step_append_lies _ (by rfl) _ _ _ (by rfl) (w.heap.size + 2) 96 i3 _ 4 32 Try.underlying90 hi3 hiz3 hix3 hiy3 rfl (by omega) v3 k (flat (besC l.ps) (l.ps.take k)) (by rfl) RR.r3 ⟨L3, 0, none⟩ 1 1 (Array.toList #[.int .i64 (besV l.ps P 0), .int .i64 (besV l.ps P 1), .int .i64 (besV l.ps P 2), .int .i64 (besV l.ps P 3)]) (by rfl) (by rfl) (World.news_of_block (RR.lits (L3, #[.int .i64 (besV l.ps P 0), .int .i64 (besV l.ps P 1), .int .i64 (besV l.ps P 2), .int .i64 (besV l.ps P 3)], 96) (by simp)).2) (besC_one l.ps P) (by omega) (by unfold maxLen; omega) (by omega) (by have : b8 + 1 + 1 < Y5.heap.size := (RR.o11.lt _ rfl).2; omega) _ rfl ?_
                      intro g3 cap3 Y6 hown hgrow hat hlt3
                      have RR := RR.app3 hl3 hown hgrow hat
                      clear hown hgrow hat
                      refine hK.out _ _ (fun _ _ => RR.S) (fun hHeld => ?_)
                      clear hK K
                      try simp only [Act.put, List.setIfInBounds_toArray, List.set_cons_zero, List.set_cons_succ]
                      exact TAIL L1 L2 L3 g1 cap1 g2 cap2 g3 cap3 Y6 RR.forget
                    (refine' AllReadyT.cons (o := ?o64) ?ho64 (fun K hK => ?step64) AllReadyT.nil; (case ho64 => simp only [List.getElem?_toArray, List.getElem?_cons_zero, List.getElem?_cons_succ]; rfl))
                    go_simp
                    have RR := RR.lit #[.int .i64 (besV l.ps P 0), .int .i64 (besV l.ps P 1), .int .i64 (besV l.ps P 2), .int .i64 (besV l.ps P 3)] 96
                    obtain ⟨Y3, hY⟩ : ∃ Y, Y = Y2.alloc (.cells #[.int .i64 (besV l.ps P 0), .int .i64 (besV l.ps P 1), .int .i64 (besV l.ps P 2), .int .i64 (besV l.ps P 3)] 96) := ⟨_, rfl⟩
                    rw [← hY] at RR ⊢
                    clear hY
                    obtain ⟨L3, hL⟩ : ∃ L, L = Y2.heap.size := ⟨_, rfl⟩
                    rw [← hL] at RR ⊢
                    clear hL
                    refine hK.out _ _ (fun _ _ => RR.S) (fun hHeld => ?_)
                    clear hK K
                    try simp only [Act.put, List.setIfInBounds_toArray, List.set_cons_zero, List.set_cons_succ]
                    refine wpAnyT_ready (rs := [9]) (by kernel_rfl) (by simp) ?_
                    (refine' AllReadyT.cons (o := ?o65) ?ho65 (fun K hK => ?step65) AllReadyT.nil; (case ho65 => simp only [List.getElem?_toArray, List.getElem?_cons_zero, List.getElem?_cons_succ]; rfl))
                    refine step_append_lies _ (by rfl) _ _ _ (by rfl) (w.heap.size + 2) 94 i1 _ 1 1 Try.underlying88 hi1 hiz1 hix1 hiy1 rfl (by omega) v1 k (flat canC (l.ps.take k)) (by rfl) RR.r1 ⟨L1, 0, none⟩ 1 1 (Array.toList #[.int .u8 cv]) (by rfl) (by rfl) (World.news_of_block (RR.lits (L1, #[.int .u8 cv], 94) (by simp)).2) HONE.out (by omega) (by unfold maxLen; omega) (by omega) (by have : b8 + 1 + 1 < Y3.heap.size := (RR.o11.lt _ rfl).2; omega) _ rfl ?_
                    intro g1 cap1 Y4 hown hgrow hat hlt1
                    have RR := RR.app1 hl1 hown hgrow hat
                    clear hown hgrow hat
                    refine hK.out _ _ (fun _ _ => RR.S) (fun hHeld => ?_)
                    clear hK K
                    try simp only [Act.put, List.setIfInBounds_toArray, List.set_cons_zero, List.set_cons_succ]
                    refine wpAnyT_ready (rs := [16]) (by kernel_rfl) (by simp) ?_
                    (refine' AllReadyT.cons (o := ?o66) ?ho66 (fun K hK => ?step66) AllReadyT.nil; (case ho66 => simp only [List.getElem?_toArray, List.getElem?_cons_zero, List.getElem?_cons_succ]; rfl))
                    refine step_append_lies _ (by rfl) _ _ _ (by rfl) (w.heap.size + 2) 95 i2 _ 4 4 Try.underlying89 hi2 hiz2 hix2 hiy2 rfl (by omega) v2 k (flat hitC (l.ps.take k)) (by rfl) RR.r2 ⟨L2, 0, none⟩ 1 1 (Array.toList #[.int .u8 (hv0 P 0), .int .u8 (hv0 P 1), .int .u8 (hv0 P 2), .int .u8 (hv0 P 3)]) (by rfl) (by rfl) (World.news_of_block (RR.lits (L2, #[.int .u8 (hv0 P 0), .int .u8 (hv0 P 1), .int .u8 (hv0 P 2), .int .u8 (hv0 P 3)], 95) (by simp)).2) (hitC_one P) (by omega) (by unfold maxLen; omega) (by omega) (by have : b8 + 1 + 1 < Y4.heap.size := (RR.o11.lt _ rfl).2; omega) _ rfl ?_
                    intro g2 cap2 Y5 hown hgrow hat hlt2
                    have RR := RR.app2 hl2 hown hgrow hat
                    clear hown hgrow hat
                    refine hK.out _ _ (fun _ _ => RR.S) (fun hHeld => ?_)
                    clear hK K
                    try simp only [Act.put, List.setIfInBounds_toArray, List.set_cons_zero, List.set_cons_succ]
                    refine wpAnyT_ready (rs := [23]) (by kernel_rfl) (by simp) ?_
                    (refine' AllReadyT.cons (o := ?o67) ?ho67 (fun K hK => ?step67) AllReadyT.nil; (case ho67 => simp only [List.getElem?_toArray, List.getElem?_cons_zero, List.getElem?_cons_succ]; rfl))
                    refine step_append_lies _ (by rfl) _ _ _ (by rfl) (w.heap.size + 2) 96 i3 _ 4 32 Try.underlying90 hi3 hiz3 hix3 hiy3 rfl (by omega) v3 k (flat (besC l.ps) (l.ps.take k)) (by rfl) RR.r3 ⟨L3, 0, none⟩ 1 1 (Array.toList #[.int .i64 (besV l.ps P 0), .int .i64 (besV l.ps P 1), .int .i64 (besV l.ps P 2), .int .i64 (besV l.ps P 3)]) (by rfl) (by rfl) (World.news_of_block (RR.lits (L3, #[.int .i64 (besV l.ps P 0), .int .i64 (besV l.ps P 1), .int .i64 (besV l.ps P 2), .int .i64 (besV l.ps P 3)], 96) (by simp)).2) (besC_one l.ps P) (by omega) (by unfold maxLen; omega) (by omega) (by have : b8 + 1 + 1 < Y5.heap.size := (RR.o11.lt _ rfl).2; omega) _ rfl ?_
                    intro g3 cap3 Y6 hown hgrow hat hlt3
                    have RR := RR.app3 hl3 hown hgrow hat
                    clear hown hgrow hat
                    refine hK.out _ _ (fun _ _ => RR.S) (fun hHeld => ?_)
                    clear hK K
                    try simp only [Act.put, List.setIfInBounds_toArray, List.set_cons_zero, List.set_cons_succ]
                    exact TAIL L1 L2 L3 g1 cap1 g2 cap2 g3 cap3 Y6 RR.forget
                  (refine' AllReadyT.cons (o := ?o68) ?ho68 (fun K hK => ?step68) AllReadyT.nil; (case ho68 => simp only [List.getElem?_toArray, List.getElem?_cons_zero, List.getElem?_cons_succ]; rfl))
                  go_simp
                  have RR := RR.lit #[.int .i64 (besV l.ps P 0), .int .i64 (besV l.ps P 1), .int .i64 (besV l.ps P 2), .int .i64 (besV l.ps P 3)] 96
                  obtain ⟨Y2, hY⟩ : ∃ Y, Y = Y1.alloc (.cells #[.int .i64 (besV l.ps P 0), .int .i64 (besV l.ps P 1), .int .i64 (besV l.ps P 2), .int .i64 (besV l.ps P 3)] 96) := ⟨_, rfl⟩
                  rw [← hY] at RR ⊢
                  clear hY
                  obtain ⟨L3, hL⟩ : ∃ L, L = Y1.heap.size := ⟨_, rfl⟩
                  rw [← hL] at RR ⊢
                  clear hL
                  refine hK.out _ _ (fun _ _ => RR.S) (fun hHeld => ?_)
                  clear hK K
                  try simp only [Act.put, List.setIfInBounds_toArray, List.set_cons_zero, List.set_cons_succ]
                  refine wpAnyT_ready (rs := [8]) (by kernel_rfl) (by simp) ?_
                  (refine' AllReadyT.cons (o := ?o69) ?ho69 (fun K hK => ?step69) AllReadyT.nil; (case ho69 => simp only [List.getElem?_toArray, List.getElem?_cons_zero, List.getElem?_cons_succ]; rfl))
                  go_simp
                  have RR := RR.lit #[.int .u8 cv] 94
                  obtain ⟨Y3, hY⟩ : ∃ Y, Y = Y2.alloc (.cells #[.int .u8 cv] 94) := ⟨_, rfl⟩
                  rw [← hY] at RR ⊢
                  clear hY
                  obtain ⟨L1, hL⟩ : ∃ L, L = Y2.heap.size := ⟨_, rfl⟩
                  rw [← hL] at RR ⊢
                  clear hL
                  refine hK.out _ _ (fun _ _ => RR.S) (fun hHeld => ?_)
                  clear hK K
                  try simp only [Act.put, List.setIfInBounds_toArray, List.set_cons_zero, List.set_cons_succ]
                  refine wpAnyT_ready (rs := [9]) (by kernel_rfl) (by simp) ?_
                  (refine' AllReadyT.cons (o := ?o70) ?ho70 (fun K hK => ?step70) AllReadyT.nil; (case ho70 => simp only [List.getElem?_toArray, List.getElem?_cons_zero, List.getElem?_cons_succ]; rfl))
                  refine step_append_lies _ (by rfl) _ _ _ (by rfl) (w.heap.size + 2) 94 i1 _ 1 1 Try.underlying88 hi1 hiz1 hix1 hiy1 rfl (by omega) v1 k (flat canC (l.ps.take k)) (by rfl) RR.r1 ⟨L1, 0, none⟩ 1 1 (Array.toList #[.int .u8 cv]) (by rfl) (by rfl) (World.news_of_block (RR.lits (L1, #[.int .u8 cv], 94) (by simp)).2) HONE.out (by omega) (by unfold maxLen; omega) (by omega) (by have : b8 + 1 + 1 < Y3.heap.size := (RR.o11.lt _ rfl).2; omega) _ rfl ?_
                  intro g1 cap1 Y4 hown hgrow hat hlt1
                  have RR := RR.app1 hl1 hown hgrow hat
                  clear hown hgrow hat
                  refine hK.out _ _ (fun _ _ => RR.S) (fun hHeld => ?_)
                  clear hK K
                  try simp only [Act.put, List.setIfInBounds_toArray, List.set_cons_zero, List.set_cons_succ]
                  refine wpAnyT_ready (rs := [16]) (by kernel_rfl) (by simp) ?_
                  (refine' AllReadyT.cons (o := ?o71) ?ho71 (fun K hK => ?step71) AllReadyT.nil; (case ho71 => simp only [List.getElem?_toArray, List.getElem?_cons_zero, List.getElem?_cons_succ]; rfl))
                  refine step_append_lies _ (by rfl) _ _ _ (by rfl) (w.heap.size + 2) 95 i2 _ 4 4 Try.underlying89 hi2 hiz2 hix2 hiy2 rfl (by omega) v2 k (flat hitC (l.ps.take k)) (by rfl) RR.r2 ⟨L2, 0, none⟩ 1 1 (Array.toList #[.int .u8 (hv0 P 0), .int .u8 (hv0 P 1), .int .u8 (hv0 P 2), .int .u8 (hv0 P 3)]) (by rfl) (by rfl) (World.news_of_block (RR.lits (L2, #[.int .u8 (hv0 P 0), .int .u8 (hv0 P 1), .int .u8 (hv0 P 2), .int .u8 (hv0 P 3)], 95) (by simp)).2) (hitC_one P) (by omega) (by unfold maxLen; omega) (by omega) (by have : b8 + 1 + 1 < Y4.heap.size := (RR.o11.lt _ rfl).2; omega) _ rfl ?_
                  intro g2 cap2 Y5 hown hgrow hat hlt2
                  have RR := RR.app2 hl2 hown hgrow hat
                  clear hown hgrow hat
                  refine hK.out _ _ (fun _ _ => RR.S) (fun hHeld => ?_)
                  clear hK K
                  try simp only [Act.put, List.setIfInBounds_toArray, List.set_cons_zero, List.set_cons_succ]
                  refine wpAnyT_ready (rs := [23]) (by kernel_rfl) (by simp) ?_
                  (refine' AllReadyT.cons (o := ?o72) ?ho72 (fun K hK => ?step72) AllReadyT.nil; (case ho72 => simp only [List.getElem?_toArray, List.getElem?_cons_zero, List.getElem?_cons_succ]; rfl))
                  refine step_append_lies _ (by rfl) _ _ _ (by rfl) (w.heap.size + 2) 96 i3 _ 4 32 Try.underlying90 hi3 hiz3 hix3 hiy3 rfl (by omega) v3 k (flat (besC l.ps) (l.ps.take k)) (by rfl) RR.r3 ⟨L3, 0, none⟩ 1 1 (Array.toList #[.int .i64 (besV l.ps P 0), .int .i64 (besV l.ps P 1), .int .i64 (besV l.ps P 2), .int .i64 (besV l.ps P 3)]) (by rfl) (by rfl) (World.news_of_block (RR.lits (L3, #[.int .i64 (besV l.ps P 0), .int .i64 (besV l.ps P 1), .int .i64 (besV l.ps P 2), .int .i64 (besV l.ps P 3)], 96) (by simp)).2) (besC_one l.ps P) (by omega) (by unfold maxLen; omega) (by omega) (by have : b8 + 1 + 1 < Y5.heap.size := (RR.o11.lt _ rfl).2; omega) _ rfl ?_
                  intro g3 cap3 Y6 hown hgrow hat hlt3
                  have RR := RR.app3 hl3 hown hgrow hat
                  clear hown hgrow hat
                  refine hK.out _ _ (fun _ _ => RR.S) (fun hHeld => ?_)
                  clear hK K
                  try simp only [Act.put, List.setIfInBounds_toArray, List.set_cons_zero, List.set_cons_succ]
                  exact TAIL L1 L2 L3 g1 cap1 g2 cap2 g3 cap3 Y6 RR.forget
                (refine' AllReadyT.cons (o := ?o73) ?ho73 (fun K hK => ?step73) AllReadyT.nil; (case ho73 => simp only [List.getElem?_toArray, List.getElem?_cons_zero, List.getElem?_cons_succ]; rfl))
                go_simp
                have RR := RR.lit #[.int .i64 (besV l.ps P 0), .int .i64 (besV l.ps P 1), .int .i64 (besV l.ps P 2), .int .i64 (besV l.ps P 3)] 96
                obtain ⟨Y1, hY⟩ : ∃ Y, Y = Y0.alloc (.cells #[.int .i64 (besV l.ps P 0), .int .i64 (besV l.ps P 1), .int .i64 (besV l.ps P 2), .int .i64 (besV l.ps P 3)] 96) := ⟨_, rfl⟩
                rw [← hY] at RR ⊢
                clear hY
                obtain ⟨L3, hL⟩ : ∃ L, L = Y0.heap.size := ⟨_, rfl⟩
                rw [← hL] at RR ⊢
                clear hL
                refine hK.out _ _ (fun _ _ => RR.S) (fun hHeld => ?_)
                clear hK K
                try simp only [Act.put, List.setIfInBounds_toArray, List.set_cons_zero, List.set_cons_succ]
                refine wpAnyT_ready (rs := [8, 15]) (by kernel_rfl) (by simp) ?_
                (refine' AllReadyT.cons (o := ?o31) ?ho31 (fun K hK => ?step31) ?more31; (case ho31 => simp only [List.getElem?_toArray, List.getElem?_cons_zero, List.getElem?_cons_succ]; rfl))
                · go_simp
                  have RR := RR.lit #[.int .u8 cv] 94
                  obtain ⟨Y2, hY⟩ : ∃ Y, Y = Y1.alloc (.cells #[.int .u8 cv] 94) := ⟨_, rfl⟩
                  rw [← hY] at RR ⊢
                  clear hY
                  obtain ⟨L1, hL⟩ : ∃ L, L = Y1.heap.size := ⟨_, rfl⟩
                  rw [← hL] at RR ⊢
                  clear hL
                  refine hK.out _ _ (fun _ _ => RR.S) (fun hHeld => ?_)
                  clear hK K
                  try simp only [Act.put, List.setIfInBounds_toArray, List.set_cons_zero, List.set_cons_succ]
                  refine wpAnyT_ready (rs := [9, 15]) (by kernel_rfl) (by simp) ?_
                  (refine' AllReadyT.cons (o := ?o32) ?ho32 (fun K hK => ?step32) ?more32; (case ho32 => simp only [List.getElem?_toArray, List.getElem?_cons_zero, List.getElem?_cons_succ]; rfl))
                  · refine step_append_lies _ (by rfl) _ _ _ (by rfl) (w.heap.size + 2) 94 i1 _ 1 1 Try.underlying88 hi1 hiz1 hix1 hiy1 rfl (by omega) v1 k (flat canC (l.ps.take k)) (by rfl) RR.r1 ⟨L1, 0, none⟩ 1 1 (Array.toList #[.int .u8 cv]) (by rfl) (by rfl) (World.news_of_block (RR.lits (L1, #[.int .u8 cv], 94) (by simp)).2) HONE.out (by omega) (by unfold maxLen; omega) (by omega) (by have : b8 + 1 + 1 < Y2.heap.size := (RR.o11.lt _ rfl).2; omega) _ rfl ?_
                    intro g1 cap1 Y3 hown hgrow hat hlt1
                    have RR := RR.app1 hl1 hown hgrow hat
                    clear hown hgrow hat
                    refine hK.out _ _ (fun _ _ => RR.S) (fun hHeld => ?_)
                    clear hK K
                    try simp only [Act.put, List.setIfInBounds_toArray, List.set_cons_zero, List.set_cons_succ]
                    refine wpAnyT_ready (rs := [15]) (by kernel_rfl) (by simp) ?_
                    (refine' AllReadyT.cons (o := ?o74) ?ho74 (fun K hK => ?step74) AllReadyT.nil; (case ho74 => simp only [List.getElem?_toArray, List.getElem?_cons_zero, List.getElem?_cons_succ]; rfl))
                    go_simp
                    have RR := RR.lit #[.int .u8 (hv0 P 0), .int .u8 (hv0 P 1), .int .u8 (hv0 P 2), .int .u8 (hv0 P 3)] 95
                    obtain ⟨Y4, hY⟩ : ∃ Y, Y = Y3.alloc (.cells #[.int .u8 (hv0 P 0), .int .u8 (hv0 P 1), .int .u8 (hv0 P 2), .int .u8 (hv0 P 3)] 95) := ⟨_, rfl⟩
                    rw [← hY] at RR ⊢
                    clear hY
                    obtain ⟨L2, hL⟩ : ∃ L, L = Y3.heap.size := ⟨_, rfl⟩
                    rw [← hL] at RR ⊢
                    clear hL
                    refine hK.out _ _ (fun _ _ => RR.S) (fun hHeld => ?_)
                    clear hK K
                    try simp only [Act.put, List.setIfInBounds_toArray, List.set_cons_zero, List.set_cons_succ]
                    refine wpAnyT_ready (rs := [16]) (by kernel_rfl) (by simp) ?_
                    (refine' AllReadyT.cons (o := ?o75) ?ho75 (fun K hK => ?step75) AllReadyT.nil; (case ho75 => simp only [List.getElem?_toArray, List.getElem?_cons_zero, List.getElem?_cons_succ]; rfl))
                    refine step_append_lies _ (by rfl) _ _ _ (by rfl) (w.heap.size + 2) 95 i2 _ 4 4 Try.underlying89 hi2 hiz2 hix2 hiy2 rfl (by omega) v2 k (flat hitC (l.ps.take k)) (by rfl) RR.r2 ⟨L2, 0, none⟩ 1 1 (Array.toList #[.int .u8 (hv0 P 0), .int .u8 (hv0 P 1), .int .u8 (hv0 P 2), .int .u8 (hv0 P 3)]) (by rfl) (by rfl) (World.news_of_block (RR.lits (L2, #[.int .u8 (hv0 P 0), .int .u8 (hv0 P 1), .int .u8 (hv0 P 2), .int .u8 (hv0 P 3)], 95) (by simp)).2) (hitC_one P) (by omega) (by unfold maxLen; omega) (by omega) (by have : b8 + 1 + 1 < Y4.heap.size := (RR.o11.lt _ rfl).2; omega) _ rfl ?_
                    intro g2 cap2 Y5 hown hgrow hat hlt2
                    have RR := RR.app2 hl2 hown hgrow hat
                    clear hown hgrow hat
                    refine hK.out _ _ (fun _ _ => RR.S) (fun hHeld => ?_)
                    clear hK K
                    try simp only [Act.put, List.setIfInBounds_toArray, List.set_cons_zero, List.set_cons_succ]
                    refine wpAnyT_ready (rs := [23]) (by kernel_rfl) (by simp) ?_
                    (refine' AllReadyT.cons (o := ?o76) ?ho76 (fun K hK => ?step76) AllReadyT.nil; (case ho76 => simp only [List.getElem?_toArray, List.getElem?_cons_zero, List.getElem?_cons_succ]; rfl))
                    refine step_append_lies _ (by rfl) _ _ _ (by rfl) (w.heap.size + 2) 96 i3 _ 4 32 Try.underlying90 hi3 hiz3 hix3 hiy3 rfl (by omega) v3 k (flat (besC l.ps) (l.ps.take k)) (by rfl) RR.r3 ⟨L3, 0, none⟩ 1 1 (Array.toList #[.int .i64 (besV l.ps P 0), .int .i64 (besV l.ps P 1), .int .i64 (besV l.ps P 2), .int .i64 (besV l.ps P 3)]) (by rfl) (by rfl) (World.news_of_block (RR.lits (L3, #[.int .i64 (besV l.ps P 0), .int .i64 (besV l.ps P 1), .int .i64 (besV l.ps P 2), .int .i64 (besV l.ps P 3)], 96) (by simp)).2) (besC_one l.ps P) (by omega) (by unfold maxLen; omega) (by omega) (by have : b8 + 1 + 1 < Y5.heap.size := (RR.o11.lt _ rfl).2; omega) _ rfl ?_
                    intro g3 cap3 Y6 hown hgrow hat hlt3
                    have RR := RR.app3 hl3 hown hgrow hat
                    clear hown hgrow hat
                    refine hK.out _ _ (fun _ _ => RR.S) (fun hHeld => ?_)
                    clear hK K
                    try simp only [Act.put, List.setIfInBounds_toArray, List.set_cons_zero, List.set_cons_succ]
                    exact TAIL L1 L2 L3 g1 cap1 g2 cap2 g3 cap3 Y6 RR.forget
                  (refine' AllReadyT.cons (o := ?o77) ?ho77 (fun K hK => ?step77) AllReadyT.nil; (case ho77 => simp only [List.getElem?_toArray, List.getElem?_cons_zero, List.getElem?_cons_succ]; rfl))
                  go_simp
                  have RR := RR.lit #[.int .u8 (hv0 P 0), .int .u8 (hv0 P 1), .int .u8 (hv0 P 2), .int .u8 (hv0 P 3)] 95
                  obtain ⟨Y3, hY⟩ : ∃ Y, Y = Y2.alloc (.cells #[.int .u8 (hv0 P 0), .int .u8 (hv0 P 1), .int .u8 (hv0 P 2), .int .u8 (hv0 P 3)] 95) := ⟨_, rfl⟩
                  rw [← hY] at RR ⊢
                  clear hY
                  obtain ⟨L2, hL⟩ : ∃ L, L = Y2.heap.size := ⟨_, rfl⟩
                  rw [← hL] at RR ⊢
                  clear hL
                  refine hK.out _ _ (fun _ _ => RR.S) (fun hHeld => ?_)
                  clear hK K
                  try simp only [Act.put, List.setIfInBounds_toArray, List.set_cons_zero, List.set_cons_succ]
                  refine wpAnyT_ready (rs := [9]) (by kernel_rfl) (by simp) ?_
                  (refine' AllReadyT.cons (o := ?o78) ?ho78 (fun K hK => ?step78) AllReadyT.nil; (case ho78 => simp only [List.getElem?_toArray, List.getElem?_cons_zero, List.getElem?_cons_succ]; rfl))
                  refine step_append_lies _ (by rfl) _ _ _ (by rfl) (w.heap.size + 2) 94 i1 _ 1 1 Try.underlying88 hi1 hiz1 hix1 hiy1 rfl (by omega) v1 k (flat canC (l.ps.take k)) (by rfl) RR.r1 ⟨L1, 0, none⟩ 1 1 (Array.toList #[.int .u8 cv]) (by rfl) (by rfl) (World.news_of_block (RR.lits (L1, #[.int .u8 cv], 94) (by simp)).2) HONE.out (by omega) (by unfold maxLen; omega) (by omega) (by have : b8 + 1 + 1 < Y3.heap.size := (RR.o11.lt _ rfl).2; omega) _ rfl ?_
                  intro g1 cap1 Y4 hown hgrow hat hlt1
                  have RR := RR.app1 hl1 hown hgrow hat
                  clear hown hgrow hat
                  refine hK.out _ _ (fun _ _ => RR.S) (fun hHeld => ?_)
                  clear hK K
                  try simp only [Act.put, List.setIfInBounds_toArray, List.set_cons_zero, List.set_cons_succ]
                  refine wpAnyT_ready (rs := [16]) (by kernel_rfl) (by simp) ?_
                  (refine' AllReadyT.cons (o := ?o79) ?ho79 (fun K hK => ?step79) AllReadyT.nil; (case ho79 => simp only [List.getElem?_toArray, List.getElem?_cons_zero, List.getElem?_cons_succ]; rfl))
                  refine step_append_lies _ (by rfl) _ _ _ (by rfl) (w.heap.size + 2) 95 i2 _ 4 4 Try.underlying89 hi2 hiz2 hix2 hiy2 rfl (by omega) v2 k (flat hitC (l.ps.take k)) (by rfl) RR.r2 ⟨L2, 0, none⟩ 1 1 (Array.toList #[.int .u8 (hv0 P 0), .int .u8 (hv0 P 1), .int .u8 (hv0 P 2), .int .u8 (hv0 P 3)]) (by rfl) (by rfl) (World.news_of_block (RR.lits (L2, #[.int .u8 (hv0 P 0), .int .u8 (hv0 P 1), .int .u8 (hv0 P 2), .int .u8 (hv0 P 3)], 95) (by simp)).2) (hitC_one P) (by omega) (by unfold maxLen; omega) (by omega) (by have : b8 + 1 + 1 < Y4.heap.size := (RR.o11.lt _ rfl).2; omega) _ rfl ?_
                  intro g2 cap2 Y5 hown hgrow hat hlt2
                  have RR := RR.app2 hl2 hown hgrow hat
                  clear hown hgrow hat
                  refine hK.out _ _ (fun _ _ => RR.S) (fun hHeld => ?_)
                  clear hK K
                  try simp only [Act.put, List.setIfInBounds_toArray, List.set_cons_zero, List.set_cons_succ]
                  refine wpAnyT_ready (rs := [23]) (by kernel_rfl) (by simp) ?_
                  (refine' AllReadyT.cons (o := ?o80) ?ho80 (fun K hK => ?step80) AllReadyT.nil; (case ho80 => simp only [List.getElem?_toArray, List.getElem?_cons_zero, List.getElem?_cons_succ]; rfl))
                  refine step_append_lies _ (by rfl) _ _ _ (by rfl) (w.heap.size + 2) 96 i3 _ 4 32 Try.underlying90 hi3 hiz3 hix3 hiy3 rfl (by omega) v3 k (flat (besC l.ps) (l.ps.take k)) (by rfl) RR.r3 ⟨L3, 0, none⟩ 1 1 (Array.toList #[.int .i64 (besV l.ps P 0), .int .i64 (besV l.ps P 1), .int .i64 (besV l.ps P 2), .int .i64 (besV l.ps P 3)]) (by rfl) (by rfl) (World.news_of_block (RR.lits (L3, #[.int .i64 (besV l.ps P 0), .int .i64 (besV l.ps P 1), .int .i64 (besV l.ps P 2), .int .i64 (besV l.ps P 3)], 96) (by simp)).2) (besC_one l.ps P) (by omega) (by unfold maxLen; omega) (by omega) (by have : b8 + 1 + 1 < Y5.heap.size := (RR.o11.lt _ rfl).2; omega) _ rfl ?_
                  intro g3 cap3 Y6 hown hgrow hat hlt3
                  have RR := RR.app3 hl3 hown hgrow hat
                  clear hown hgrow hat
                  refine hK.out _ _ (fun _ _ => RR.S) (fun hHeld => ?_)
                  clear hK K
                  try simp only [Act.put, List.setIfInBounds_toArray, List.set_cons_zero, List.set_cons_succ]
                  exact TAIL L1 L2 L3 g1 cap1 g2 cap2 g3 cap3 Y6 RR.forget
                (refine' AllReadyT.cons (o := ?o81) ?ho81 (fun K hK => ?step81) AllReadyT.nil; (case ho81 => simp only [List.getElem?_toArray, List.getElem?_cons_zero, List.getElem?_cons_succ]; rfl))
                go_simp
                have RR := RR.lit #[.int .u8 (hv0 P 0), .int .u8 (hv0 P 1), .int .u8 (hv0 P 2), .int .u8 (hv0 P 3)] 95
                obtain ⟨Y2, hY⟩ : ∃ Y, Y = Y1.alloc (.cells #[.int .u8 (hv0 P 0), .int .u8 (hv0 P 1), .int .u8 (hv0 P 2), .int .u8 (hv0 P 3)] 95) := ⟨_, rfl⟩
                rw [← hY] at RR ⊢
                clear hY
                obtain ⟨L2, hL⟩ : ∃ L, L = Y1.heap.size := ⟨_, rfl⟩
                rw [← hL] at RR ⊢
                clear hL
                refine hK.out _ _ (fun _ _ => RR.S) (fun hHeld => ?_)
                clear hK K
                try simp only [Act.put, List.setIfInBounds_toArray, List.set_cons_zero, List.set_cons_succ]
                refine wpAnyT_ready (rs := [8]) (by kernel_rfl) (by simp) ?_
                (refine' AllReadyT.cons (o := ?o82) ?ho82 (fun K hK => ?step82) AllReadyT.nil; (case ho82 => simp only [List.getElem?_toArray, List.getElem?_cons_zero, List.getElem?_cons_succ]; rfl))
                go_simp
                have RR := RR.lit #[.int .u8 cv] 94
                obtain ⟨Y3, hY⟩ : ∃ Y, Y = Y2.alloc (.cells #[.int .u8 cv] 94) := ⟨_, rfl⟩
                rw [← hY] at RR ⊢
                clear hY
                obtain ⟨L1, hL⟩ : ∃ L, L = Y2.heap.size := ⟨_, rfl⟩
                rw [← hL] at RR ⊢
                clear hL
                refine hK.out _ _ (fun _ _ => RR.S) (fun hHeld => ?_)
                clear hK K
                try simp only [Act.put, List.setIfInBounds_toArray, List.set_cons_zero, List.set_cons_succ]
                refine wpAnyT_ready (rs := [9]) (by kernel_rfl) (by simp) ?_
                (refine' AllReadyT.cons (o := ?o83) ?ho83 (fun K hK => ?step83) AllReadyT.nil; (case ho83 => simp only [List.getElem?_toArray, List.getElem?_cons_zero, List.getElem?_cons_succ]; rfl))
                refine step_append_lies _ (by rfl) _ _ _ (by rfl) (w.heap.size + 2) 94 i1 _ 1 1 Try.underlying88 hi1 hiz1 hix1 hiy1 rfl (by omega) v1 k (flat canC (l.ps.take k)) (by rfl) RR.r1 ⟨L1, 0, none⟩ 1 1 (Array.toList #[.int .u8 cv]) (by rfl) (by rfl) (World.news_of_block (RR.lits (L1, #[.int .u8 cv], 94) (by simp)).2) HONE.out (by omega) (by unfold maxLen; omega) (by omega) (by have : b8 + 1 + 1 < Y3.heap.size := (RR.o11.lt _ rfl).2; omega) _ rfl ?_
                intro g1 cap1 Y4 hown hgrow hat hlt1
                have RR := RR.app1 hl1 hown hgrow hat
                clear hown hgrow hat
                refine hK.out _ _ (fun _ _ => RR.S) (fun hHeld => ?_)
                clear hK K
                try simp only [Act.put, List.setIfInBounds_toArray, List.set_cons_zero, List.set_cons_succ]
                refine wpAnyT_ready (rs := [16]) (by kernel_rfl) (by simp) ?_
                (refine' AllReadyT.cons (o := ?o84) ?ho84 (fun K hK => ?step84) AllReadyT.nil; (case ho84 => simp only [List.getElem?_toArray, List.getElem?_cons_zero, List.getElem?_cons_succ]; rfl))
                refine step_append_lies _ (by rfl) _ _ _ (by rfl) (w.heap.size + 2) 95 i2 _ 4 4 Try.underlying89 hi2 hiz2 hix2 hiy2 rfl (by omega) v2 k (flat hitC (l.ps.take k)) (by rfl) RR.r2 ⟨L2, 0, none⟩ 1 1 (Array.toList #[.int .u8 (hv0 P 0), .int .u8 (hv0 P 1), .int .u8 (hv0 P 2), .int .u8 (hv0 P 3)]) (by rfl) (by rfl) (World.news_of_block (RR.lits (L2, #[.int .u8 (hv0 P 0), .int .u8 (hv0 P 1), .int .u8 (hv0 P 2), .int .u8 (hv0 P 3)], 95) (by simp)).2) (hitC_one P) (by omega) (by unfold maxLen; omega) (by omega) (by have : b8 + 1 + 1 < Y4.heap.size := (RR.o11.lt _ rfl).2; omega) _ rfl ?_
                intro g2 cap2 Y5 hown hgrow hat hlt2
                have RR := RR.app2 hl2 hown hgrow hat
                clear hown hgrow hat
                refine hK.out _ _ (fun _ _ => RR.S) (fun hHeld => ?_)
                clear hK K
                try simp only [Act.put, List.setIfInBounds_toArray, List.set_cons_zero, List.set_cons_succ]
                refine wpAnyT_ready (rs := [23]) (by kernel_rfl) (by simp) ?_
                (refine' AllReadyT.cons (o := ?o85) ?ho85 (fun K hK => ?step85) AllReadyT.nil; (case ho85 => simp only [List.getElem?_toArray, List.getElem?_cons_zero, List.getElem?_cons_succ]; rfl))
                refine step_append_lies _ (by rfl) _ _ _ (by rfl) (w.heap.size + 2) 96 i3 _ 4 32 Try.underlying90 hi3 hiz3 hix3 hiy3 rfl (by omega) v3 k (flat (besC l.ps) (l.ps.take k)) (by rfl) RR.r3 ⟨L3, 0, none⟩ 1 1 (Array.toList #[.int .i64 (besV l.ps P 0), .int .i64 (besV l.ps P 1), .int .i64 (besV l.ps P 2), .int .i64 (besV l.ps P 3)]) (by rfl) (by rfl) (World.news_of_block (RR.lits (L3, #[.int .i64 (besV l.ps P 0), .int .i64 (besV l.ps P 1), .int .i64 (besV l.ps P 2), .int .i64 (besV l.ps P 3)], 96) (by simp)).2) (besC_one l.ps P) (by omega) (by unfold maxLen; omega) (by omega) (by have : b8 + 1 + 1 < Y5.heap.size := (RR.o11.lt _ rfl).2; omega) _ rfl ?_
                intro g3 cap3 Y6 hown hgrow hat hlt3
                have RR := RR.app3 hl3 hown hgrow hat
                clear hown hgrow hat
                refine hK.out _ _ (fun _ _ => RR.S) (fun hHeld => ?_)
                clear hK K
                try simp only [Act.put, List.setIfInBounds_toArray, List.set_cons_zero, List.set_cons_succ]
                exact TAIL L1 L2 L3 g1 cap1 g2 cap2 g3 cap3 Y6 RR.forget
              case tailQ =>
                intro L1 L2 L3 g1 cap1 g2 cap2 g3 cap3 Y RR
                try simp only [Act.put, List.setIfInBounds_toArray, List.set_cons_zero, List.set_cons_succ]
                have st := RR.st
                have hst1 : Y.ownsRow w.heap.size 92 4 (.slice (some ⟨w.heap.size, 0, none⟩) 1 1) 1 [.slice (some ⟨b', off, none⟩) l.ps.length scap, v1, v2, v3] := st
                clear st
                obtain ⟨⟨z1, s1⟩, t1⟩ := own_cell hst1 (j := 1) (by omega)
                obtain ⟨⟨z2, s2⟩, t2⟩ := own_cell hst1 (j := 2) (by omega)
                obtain ⟨⟨z3, s3⟩, t3⟩ := own_cell hst1 (j := 3) (by omega)
                refine wpAnyT_ready (rs := [24]) (by kernel_rfl) (by simp) ?_
                (refine' AllReadyT.cons (o := ?o86) ?ho86 (fun K hK => ?step86) AllReadyT.nil; (case ho86 => simp only [List.getElem?_toArray, List.getElem?_cons_zero, List.getElem?_cons_succ]; rfl))
                go_simp
                refine hK.out _ _ (fun _ h => absurd h (by decide)) (fun _ => ?_)
                clear hK K
                try simp only [Act.put, List.setIfInBounds_toArray, List.set_cons_zero, List.set_cons_succ]
                refine wpAnyT_ready (rs := [25]) (by kernel_rfl) (by simp) ?_
                (refine' AllReadyT.cons (o := ?o87) ?ho87 (fun K hK => ?step87) AllReadyT.nil; (case ho87 => simp only [List.getElem?_toArray, List.getElem?_cons_zero, List.getElem?_cons_succ]; rfl))
                go_simp
                refine hK.out _ _ (fun _ h => absurd h (by decide)) (fun _ => ?_)
                clear hK K
                try simp only [Act.put, List.setIfInBounds_toArray, List.set_cons_zero, List.set_cons_succ]
                refine wpAnyT_ready (rs := [26]) (by kernel_rfl) (by simp) ?_
                (refine' AllReadyT.cons (o := ?o88) ?ho88 (fun K hK => ?step88) AllReadyT.nil; (case ho88 => simp only [List.getElem?_toArray, List.getElem?_cons_zero, List.getElem?_cons_succ]; rfl))
                go_simp
                refine hK.out _ _ (fun _ h => absurd h (by decide)) (fun _ => ?_)
                clear hK K
                try simp only [Act.put, List.setIfInBounds_toArray, List.set_cons_zero, List.set_cons_succ]
                refine wpAnyT_ready (rs := [27]) (by kernel_rfl) (by simp) ?_
                (refine' AllReadyT.cons (o := ?o89) ?ho89 (fun K hK => ?step89) AllReadyT.nil; (case ho89 => simp only [List.getElem?_toArray, List.getElem?_cons_zero, List.getElem?_cons_succ]; rfl))
                go_simp
                refine hK.out _ _ (fun _ h => absurd h (by decide)) (fun _ => ?_)
                clear hK K
                try simp only [Act.put, List.setIfInBounds_toArray, List.set_cons_zero, List.set_cons_succ]
                refine wpAnyT_ready (rs := [28]) (by kernel_rfl) (by simp) ?_
                (refine' AllReadyT.cons (o := ?o90) ?ho90 (fun K hK => ?step90) AllReadyT.nil; (case ho90 => simp only [List.getElem?_toArray, List.getElem?_cons_zero, List.getElem?_cons_succ]; rfl))
                go_simp
                refine hK.out _ _ (fun _ h => absurd h (by decide)) (fun _ => ?_)
                clear hK K
                try simp only [Act.put, List.setIfInBounds_toArray, List.set_cons_zero, List.set_cons_succ]
                refine wpAnyT_ready (rs := [29]) (by kernel_rfl) (by simp) ?_
                (refine' AllReadyT.cons (o := ?o91) ?ho91 (fun K hK => ?step91) AllReadyT.nil; (case ho91 => simp only [List.getElem?_toArray, List.getElem?_cons_zero, List.getElem?_cons_succ]; rfl))
                go_simp
                refine hK.out _ _ (fun _ h => absurd h (by decide)) (fun _ => ?_)
                clear hK K
                try simp only [Act.put, List.setIfInBounds_toArray, List.set_cons_zero, List.set_cons_succ]
                refine wpAnyT_ready (rs := [30]) (by kernel_rfl) (by simp) ?_
                (refine' AllReadyT.cons (o := ?o92) ?ho92 (fun K hK => ?step92) AllReadyT.nil; (case ho92 => simp only [List.getElem?_toArray, List.getElem?_cons_zero, List.getElem?_cons_succ]; rfl))
                go_simp
                refine hK.out _ _ (fun _ h => absurd h (by decide)) (fun _ => ?_)
                clear hK K
                try simp only [Act.put, List.setIfInBounds_toArray, List.set_cons_zero, List.set_cons_succ]
                refine wpAnyT_ready (rs := [31]) (by kernel_rfl) (by simp) ?_
                (refine' AllReadyT.cons (o := ?o93) ?ho93 (fun K hK => ?step93) AllReadyT.nil; (case ho93 => simp only [List.getElem?_toArray, List.getElem?_cons_zero, List.getElem?_cons_succ]; rfl))
                go_simp
                refine hK.out _ _ (fun _ h => absurd h (by decide)) (fun _ => ?_)
                clear hK K
                try simp only [Act.put, List.setIfInBounds_toArray, List.set_cons_zero, List.set_cons_succ]
                refine wpAnyT_ready (rs := [32]) (by kernel_rfl) (by simp) ?_
                (refine' AllReadyT.cons (o := ?o94) ?ho94 (fun K hK => ?step94) AllReadyT.nil; (case ho94 => simp only [List.getElem?_toArray, List.getElem?_cons_zero, List.getElem?_cons_succ]; rfl))
                go_simp
                refine hK.out _ _ (fun _ h => absurd h (by decide)) (fun _ => ?_)
                clear hK K
                try simp only [Act.put, List.setIfInBounds_toArray, List.set_cons_zero, List.set_cons_succ]
                refine wpAnyT_done (by kernel_rfl) ?_ _
                clear s1 t1 s2 t2 s3 t3 hst1
                obtain ⟨u1, u2, u3, u4, u5', u6', u7', u8', u9'⟩ := RR.done
                have htk : l.ps.take (k + 1) = l.ps.take k ++ [P] := by rw [HP.out]; exact List.take_succ_eq_append_getElem hlt
                have U1 := Lib.hid u1
                have U2 := Lib.hid u2
                have U3 := Lib.hid u3
                have U4 := Lib.hid u4
                clear u1 u2 u3 u4 RR
                have U5 := Lib.hid u5'
                have U6 := Lib.hid u6'
                have U7 := Lib.hid u7'
                have U8 := Lib.hid u8'
                have U9 := Lib.hid u9'
                clear u5' u6' u7' u8' u9'
                go_wp2
                go_roundw
                case rel =>
                  refine ⟨k + 1, _, _, _, by omega, by go_num, U1.out, ?_, ?_, ?_, U5.out, U6.out, U7.out, U8.out, U9.out⟩
                  · rw [htk, flat_append]; have := U2.out; rw [HCV.out] at this; exact this
                  · rw [htk, flat_append]; exact U3.out
                  · rw [htk, flat_append]; exact U4.out
                case measure => simp [intOf]; omega
        · have hkn : k = l.ps.length := by omega
          subst hkn
          rw [List.take_length] at hr1 hr2 hr3
          go_wp2
          go_ret
          refine ⟨w.heap.size, rfl, Nat.le_refl _, ⟨⟨by omega, _, _, _, _, ⟨by rw [hst.cellAt _ (by omega)]; rfl, by rw [hst.cellAt _ (by omega)]; rfl, by rw [hst.cellAt _ (by omega)]; rfl, by rw [hst.cellAt _ (by omega)]; rfl⟩, ⟨sa, scap, rfl, (hps.below hb (Nat.le_refl _)).wide hb.size⟩, sv_own hr1, sv_own hr2, sv_own hr3⟩, fun q hq w2 hg => ?_⟩, hb⟩
          obtain ⟨hq, hpq⟩ := hq
          have hst := own_kept hst hg (by intro k hk e; have := (hst.lt k hk).1; cases e; omega)
          have hr1 := own_kept hr1 hg (by intro k hk e; have := (hr1.lt k hk).1; cases e; omega)
          have hr2 := own_kept hr2 hg (by intro k hk e; have := (hr2.lt k hk).1; cases e; omega)
          have hr3 := own_kept hr3 hg (by intro k hk e; have := (hr3.lt k hk).1; cases e; omega)
          exact ⟨(hst.lt _ rfl).2, _, _, _, _, ⟨by rw [hst.cellAt _ (by omega)]; rfl, by rw [hst.cellAt _ (by omega)]; rfl, by rw [hst.cellAt _ (by omega)]; rfl, by rw [hst.cellAt _ (by omega)]; rfl⟩, ⟨sa, scap, rfl, hpq sa scap HC2.out w2 (bl_gb hb hg)⟩, sv_own hr1, sv_own hr2, sv_own hr3⟩
theorem stageOf_any (b0 : Nat) (l : Bd) (w : World) (hbp : BP w b0 l) (hv : vBd l = true) :
    Calls Try.prog 23 #[.pointer (some ⟨b0, 0, none⟩)] w fun e w' => ∃ g, e = .returned (.pointer (some ⟨g, 0, none⟩)) ∧ w.heap.size ≤ g ∧ StAt w' g l ∧ Below w.heap.size w w' :=
  (stageOf_kp b0 l w hbp hv).mono fun _ _ ⟨g, h1, h2, h3, h4⟩ => ⟨g, h1, h2, h3.1, h4⟩
end Go.Proofs.Ytmeefmoblkiebaa
/- Contracts: PushOne (both). -/
namespace Go.Proofs.Ytmeefmoblkiebaa
open Go.RowKit
set_option linter.unusedVariables false
set_option linter.unusedSimpArgs false
set_option maxHeartbeats 400000
set_option maxRecDepth 100000
open Classical in
/-- How all pieces fall. -/
noncomputable def runOf (ps : List Pc) (pl : List Pu) : List Fa := if h : ∃ fs, okFa ps pl fs then h.choose else List.replicate ps.length (faOf none)
theorem runOf_length (ps : List Pc) (pl : List Pu) : (runOf ps pl).length = ps.length := by
  unfold runOf
  split
  · rename_i h
    exact h.choose_spec.1
  · simp
theorem runOf_eq (ps : List Pc) (pl : List Pu) (fs : List Fa) (G : Good ps pl) (h : okFa ps pl fs) : fs = runOf ps pl := by
  have hx : ∃ fs, okFa ps pl fs := ⟨fs, h⟩
  unfold runOf
  rw [dif_pos hx]
  exact due_unique ps pl fs _ G.d1 G.t0 h hx.choose_spec
def poCode (l : Bd) (i s : Int) : Int := if vBd l = true then (if inB i 0 (l.ps.length - 1) = true then (if inB s 0 3 = true then 0 else 2) else 2) else 1
def pushOf (l : Bd) (i : Nat) (s : Int) : Pu := ⟨(l.ps.getD i default).x, (l.ps.getD i default).y, s, 0⟩
noncomputable def poList (l : Bd) (i s : Int) : List Fa := if poCode l i s = 0 then runOf l.ps [pushOf l i.toNat s] else []
theorem poCode_0 (l : Bd) (i s : Int) (h : poCode l i s = 0) : vBd l = true ∧ ∃ n k : Nat, i = (n : Int) ∧ n < l.ps.length ∧ s = (k : Int) ∧ k < 4 := by
  unfold poCode inB at h
  split at h
  · rename_i hv
    split at h
    · rename_i h1
      split at h
      · rename_i h2
        simp only [Bool.and_eq_true, decide_eq_true_eq] at h1 h2
        exact ⟨hv, i.toNat, s.toNat, by omega, by omega, by omega, by omega⟩
      · omega
    · omega
  · omega
theorem pushOf_ok (l : Bd) (hv : vBd l = true) (hlok : l.ok) (n : Nat) (hn : n < l.ps.length) (k : Nat) (hk : k < 4) : PusOk [pushOf l n k] ∧ [pushOf l n k].all plainPu = true ∧ [pushOf l n k].all (fun p => decide (0 ≤ fnd ⟨p.x, p.y⟩ l.ps)) = true ∧ hitOf l (pushOf l n k) = ⟨0, n, k, -1⟩ := by
  have G := good_bd l hv [] rfl
  have e1 : fnd ⟨(pushOf l n k).x, (pushOf l n k).y⟩ l.ps = (n : Int) := by
    rw [fnd_iff l.ps G.nd]
    exact ⟨hn, by unfold pushOf; rw [getD_pc l.ps n hn]; rfl⟩
  refine ⟨?_, ?_, ?_, ?_⟩
  · intro j hj
    have hj0 : j = 0 := by simp at hj; omega
    subst hj0
    have h9 := G.ce n hn
    show (pushOf l n k).ok
    unfold Pu.ok
    unfold pushOf
    unfold Ce.ok at h9
    exact ⟨h9.1, h9.2, by unfold I8; simp only; omega, by simp only; omega⟩
  · simp only [List.all_cons, List.all_nil, Bool.and_true]
    unfold plainPu inB pushOf
    simp only [Bool.and_eq_true, decide_eq_true_eq]
    omega
  · simp only [List.all_cons, List.all_nil, Bool.and_true, decide_eq_true_eq]
    rw [e1]; omega
  · unfold hitOf
    rw [e1]; rfl
end Go.Proofs.Ytmeefmoblkiebaa
/- Falls of which each follows from the others exist: plain law; and what follows for runOf. -/
namespace Go.Proofs.Ytmeefmoblkiebaa
open Go.RowKit
set_option linter.unusedVariables false
set_option linter.unusedSimpArgs false
set_option maxHeartbeats 400000
set_option maxRecDepth 100000
theorem bestH_iff (xs : List Ht) (m : Ht) : bestH xs = some m ↔ m ∈ xs ∧ ∀ x ∈ xs, ltH x m = false := by
  constructor
  · intro h; exact ⟨bestH_mem xs m h, bestH_le xs m h⟩
  · rintro ⟨h1, h2⟩
    cases hb : bestH xs with
    | none => rw [bestH_none xs hb] at h1; cases h1
    | some k =>
      have h3 := bestH_le xs k hb m h1
      have h4 := h2 k (bestH_mem xs k hb)
      rw [ltH_total h4 h3]
theorem dueC_move (ps : List Pc) (pl : List Pu) (fs gs : List Fa) (hf : fs.length = ps.length) (hg : gs.length = ps.length) (hd : ∀ j, j < ps.length → 1 ≤ (ps.getD j default).d) (T : Int)
    (hs : ∀ k, k < ps.length → (fs.getD k default).t ≠ -1 → (fs.getD k default).t < T → gs.getD k default = fs.getD k default) (i : Nat) (m : Ht) (hm : m.1 ≤ T) (h : m ∈ dueC ps pl fs i) : m ∈ dueC ps pl gs i := by
  rw [cand_mem] at h ⊢
  refine ⟨h.1, h.2.imp id ?_⟩
  rintro ⟨s, hs4, h3⟩
  obtain ⟨k, hk, -, h4, h5, h6⟩ := candN1_some ps fs i s m h3 hf
  have h7 := hd k hk
  exact ⟨s, hs4, h6 gs hg (hs k hk h4 (by omega))⟩
/-- The falls ahead of a tick. -/
def stepT (ps : List Pc) (pl : List Pu) (T : Int) (fs : List Fa) : List Fa :=
  (List.range ps.length).map fun i => if (fs.getD i default).t ≠ -1 then fs.getD i default else if (due ps pl fs i).t = T then due ps pl fs i else faOf none
theorem stepT_at (ps : List Pc) (pl : List Pu) (T : Int) (fs : List Fa) (i : Nat) (hi : i < ps.length) : (stepT ps pl T fs).getD i default = if (fs.getD i default).t ≠ -1 then fs.getD i default else if (due ps pl fs i).t = T then due ps pl fs i else faOf none := by
  unfold stepT
  rw [List.getD_eq_getElem?_getD, List.getElem?_eq_getElem (by simpa using hi)]
  simp
structure PartT (ps : List Pc) (pl : List Pu) (T : Int) (fs : List Fa) : Prop where
  len : fs.length = ps.length
  fell : ∀ i, i < ps.length → (fs.getD i default).t ≠ -1 → 0 ≤ (fs.getD i default).t ∧ (fs.getD i default).t < T ∧ fs.getD i default = due ps pl fs i
  stay : ∀ i, i < ps.length → (fs.getD i default).t = -1 → fs.getD i default = faOf none ∧ ∀ m ∈ dueC ps pl fs i, T ≤ m.1
theorem partT_zero (ps : List Pc) (pl : List Pu) (hp : ∀ p ∈ pl, 0 ≤ p.t) : PartT ps pl 0 (List.replicate ps.length (faOf none)) := by
  have hat : ∀ i, i < ps.length → (List.replicate ps.length (faOf none)).getD i default = faOf none := by
    intro i hi
    rw [List.getD_eq_getElem?_getD, List.getElem?_eq_getElem (by simpa using hi)]
    simp
  refine ⟨by simp, ?_, ?_⟩
  · intro i hi h
    rw [hat i hi] at h
    exact absurd rfl h
  · intro i hi h
    refine ⟨hat i hi, ?_⟩
    intro m hm
    rw [cand_mem] at hm
    rcases hm.2 with h1 | ⟨s, hs, h1⟩
    · exact candP_tick ps pl hp i m h1
    · obtain ⟨k, hk, -, h4, -, -⟩ := candN1_some ps _ i s m h1 (by simp)
      rw [hat k hk] at h4
      exact absurd rfl h4
theorem partT_step (ps : List Pc) (pl : List Pu) (hd : ∀ j, j < ps.length → 1 ≤ (ps.getD j default).d) (T : Int) (hT : 0 ≤ T) (fs : List Fa) (h : PartT ps pl T fs) : PartT ps pl (T + 1) (stepT ps pl T fs) := by
  have hl : (stepT ps pl T fs).length = ps.length := by simp [stepT]
  have hat := stepT_at ps pl T fs
  -- both ways up to T
  have fwd : ∀ i m, m.1 ≤ T → m ∈ dueC ps pl fs i → m ∈ dueC ps pl (stepT ps pl T fs) i := by
    intro i m hm hx
    refine dueC_move ps pl fs _ h.len hl hd T ?_ i m hm hx
    intro k hk h1 _
    rw [hat k hk, if_pos h1]
  have bwd : ∀ i m, m.1 ≤ T → m ∈ dueC ps pl (stepT ps pl T fs) i → m ∈ dueC ps pl fs i := by
    intro i m hm hx
    refine dueC_move ps pl _ fs hl h.len hd T ?_ i m hm hx
    intro k hk h1 h2
    rw [hat k hk] at h1 h2 ⊢
    by_cases h3 : (fs.getD k default).t ≠ -1
    · rw [if_pos h3]
    · rw [if_neg h3] at h1 h2
      by_cases h4 : (due ps pl fs k).t = T
      · rw [if_pos h4] at h2; omega
      · rw [if_neg h4] at h1; exact absurd rfl h1
  have best : ∀ i m, m.1 ≤ T → bestH (dueC ps pl fs i) = some m → bestH (dueC ps pl (stepT ps pl T fs) i) = some m := by
    intro i m hm hb
    rw [bestH_iff] at hb ⊢
    refine ⟨fwd i m hm hb.1, ?_⟩
    intro x hx
    by_cases hxT : x.1 ≤ T
    · exact hb.2 x (bwd i x hxT hx)
    · rw [Bool.eq_false_iff, ne_eq, ltH_iff]; omega
  have dueS : ∀ i, (due ps pl fs i).t ≠ -1 → (due ps pl fs i).t ≤ T → due ps pl (stepT ps pl T fs) i = due ps pl fs i := by
    intro i h1 h2
    unfold due at h1 h2 ⊢
    cases hm : bestH (dueC ps pl fs i) with
    | none => rw [hm] at h1; exact absurd rfl h1
    | some m =>
      rw [hm] at h2
      rw [best i m h2 hm]
  refine ⟨hl, ?_, ?_⟩
  · intro i hi h1
    rw [hat i hi] at h1 ⊢
    by_cases h3 : (fs.getD i default).t ≠ -1
    · obtain ⟨f1, f2, f3⟩ := h.fell i hi h3
      rw [if_pos h3]
      refine ⟨f1, by omega, ?_⟩
      rw [dueS i (by rw [← f3]; exact h3) (by rw [← f3]; omega)]
      exact f3
    · rw [if_neg h3] at h1 ⊢
      by_cases h4 : (due ps pl fs i).t = T
      · rw [if_pos h4]
        refine ⟨by omega, by omega, ?_⟩
        exact (dueS i (by omega) (by omega)).symm
      · rw [if_neg h4] at h1; exact absurd rfl h1
  · intro i hi h1
    rw [hat i hi] at h1 ⊢
    by_cases h3 : (fs.getD i default).t ≠ -1
    · rw [if_pos h3] at h1; exact absurd h1 h3
    · obtain ⟨s1, s2⟩ := h.stay i hi (by omega)
      rw [if_neg h3] at h1 ⊢
      by_cases h4 : (due ps pl fs i).t = T
      · rw [if_pos h4] at h1; omega
      · rw [if_neg h4]
        refine ⟨rfl, ?_⟩
        intro x hx
        by_cases hxT : x.1 ≤ T
        · have h5 := bwd i x hxT hx
          have h6 := s2 x h5
          exfalso
          unfold due at h4
          cases hm : bestH (dueC ps pl fs i) with
          | none => rw [bestH_none _ hm] at h5; cases h5
          | some m =>
            rw [hm] at h4
            have h7 : m.1 ≠ T := h4
            have h8 := s2 m (bestH_mem _ m hm)
            have h9 := bestH_le _ m hm x h5
            rw [Bool.eq_false_iff, ne_eq, ltH_iff] at h9
            omega
        · omega
def atT (ps : List Pc) (pl : List Pu) : Nat → List Fa
  | 0 => List.replicate ps.length (faOf none)
  | T + 1 => stepT ps pl T (atT ps pl T)
theorem atT_part (ps : List Pc) (pl : List Pu) (hd : ∀ j, j < ps.length → 1 ≤ (ps.getD j default).d) (hp : ∀ p ∈ pl, 0 ≤ p.t) : ∀ T : Nat, PartT ps pl T (atT ps pl T)
  | 0 => partT_zero ps pl hp
  | T + 1 => by
    have := partT_step ps pl hd T (by omega) _ (atT_part ps pl hd hp T)
    simpa [atT] using this
theorem atT_keep (ps : List Pc) (pl : List Pu) (i : Nat) (hi : i < ps.length) (T : Nat) (h : ((atT ps pl T).getD i default).t ≠ -1) : ∀ n, (atT ps pl (T + n)).getD i default = (atT ps pl T).getD i default
  | 0 => rfl
  | n + 1 => by
    have ih := atT_keep ps pl i hi T h n
    show (stepT ps pl _ (atT ps pl (T + n))).getD i default = _
    rw [stepT_at _ _ _ _ i hi, if_pos (by rw [ih]; exact h), ih]
theorem atT_end1 (ps : List Pc) (pl : List Pu) (hd : ∀ j, j < ps.length → 1 ≤ (ps.getD j default).d) (hp : ∀ p ∈ pl, 0 ≤ p.t) (i : Nat) (hi : i < ps.length) : ∃ T0, ∀ T, T0 ≤ T → (atT ps pl T).getD i default = (atT ps pl T0).getD i default := by
  by_cases h : ∃ T0, ((atT ps pl T0).getD i default).t ≠ -1
  · obtain ⟨T0, h0⟩ := h
    refine ⟨T0, ?_⟩
    intro T hT
    obtain ⟨n, rfl⟩ := Nat.exists_eq_add_of_le hT
    exact atT_keep ps pl i hi T0 h0 n
  · refine ⟨0, ?_⟩
    intro T _
    have h1 : ∀ T, (atT ps pl T).getD i default = faOf none := by
      intro T
      refine ((atT_part ps pl hd hp T).stay i hi ?_).1
      by_cases h2 : ((atT ps pl T).getD i default).t = -1
      · exact h2
      · exact absurd ⟨T, h2⟩ h
    rw [h1, h1]
theorem atT_end (ps : List Pc) (pl : List Pu) (hd : ∀ j, j < ps.length → 1 ≤ (ps.getD j default).d) (hp : ∀ p ∈ pl, 0 ≤ p.t) : ∀ n, n ≤ ps.length → ∃ T0, ∀ T, T0 ≤ T → ∀ i, i < n → (atT ps pl T).getD i default = (atT ps pl T0).getD i default
  | 0, _ => ⟨0, fun _ _ i hi => absurd hi (by omega)⟩
  | n + 1, hn => by
    obtain ⟨T1, h1⟩ := atT_end ps pl hd hp n (by omega)
    obtain ⟨T2, h2⟩ := atT_end1 ps pl hd hp n (by omega)
    refine ⟨max T1 T2, ?_⟩
    intro T hT i hi
    by_cases hin : i = n
    · subst hin
      rw [h2 T (by omega), h2 (max T1 T2) (by omega)]
    · rw [h1 T (by omega) i (by omega), h1 (max T1 T2) (by omega) i (by omega)]
theorem okFa_exists (ps : List Pc) (pl : List Pu) (hd : ∀ j, j < ps.length → 1 ≤ (ps.getD j default).d) (hp : ∀ p ∈ pl, 0 ≤ p.t) : ∃ fs, okFa ps pl fs := by
  obtain ⟨T0, h0⟩ := atT_end ps pl hd hp ps.length (Nat.le_refl _)
  have P0 := atT_part ps pl hd hp T0
  refine ⟨atT ps pl T0, P0.len, ?_, ?_⟩
  · intro i hi
    by_cases h : ((atT ps pl T0).getD i default).t = -1
    · omega
    · have := P0.fell i hi h; omega
  · intro i hi
    by_cases h : ((atT ps pl T0).getD i default).t = -1
    · rw [(P0.stay i hi h).1]
      have hnil : dueC ps pl (atT ps pl T0) i = [] := by
        apply List.eq_nil_iff_forall_not_mem.2
        intro m hm
        have hP := atT_part ps pl hd hp (max T0 (m.1.toNat + 1))
        have heq : atT ps pl (max T0 (m.1.toNat + 1)) = atT ps pl T0 := by
          apply List.ext_getElem
          · rw [hP.len, P0.len]
          · intro j hj hj2
            have hjp : j < ps.length := by rw [← P0.len]; exact hj2
            have e := h0 (max T0 (m.1.toNat + 1)) (by omega) j hjp
            rw [List.getD_eq_getElem?_getD, List.getElem?_eq_getElem hj, List.getD_eq_getElem?_getD, List.getElem?_eq_getElem hj2] at e
            exact e
        rw [heq] at hP
        have := (hP.stay i hi h).2 m hm
        omega
      unfold due
      rw [hnil]
      rfl
    · exact (P0.fell i hi h).2.2
/-- The falls of a board that is given do follow. -/
theorem runOf_ok (ps : List Pc) (pl : List Pu) (G : Good ps pl) : okFa ps pl (runOf ps pl) := by
  obtain ⟨fs, h⟩ := okFa_exists ps pl G.d1 G.t0
  have := runOf_eq ps pl fs G h
  rw [← this]; exact h
end Go.Proofs.Ytmeefmoblkiebaa
/- Falls hang on pushes or on earlier falls: plain law. -/
namespace Go.Proofs.Ytmeefmoblkiebaa
open Go.RowKit
set_option linter.unusedVariables false
set_option linter.unusedSimpArgs false
set_option maxHeartbeats 400000
set_option maxRecDepth 100000
def rkF (fs : List Fa) (t : Int) : Nat := (fs.filter (fun f => decide (0 ≤ f.t) && decide (f.t < t))).length
theorem rk_lt : ∀ (fs : List Fa) (t t' : Int) (k : Nat) (hk : k < fs.length), 0 ≤ fs[k].t → fs[k].t < t → t' ≤ fs[k].t → rkF fs t' < rkF fs t := by
  have mono : ∀ (fs : List Fa) (t t' : Int), t' ≤ t → rkF fs t' ≤ rkF fs t := by
    intro fs t t' h
    unfold rkF
    induction fs with
    | nil => simp
    | cons f fs ih =>
      by_cases h1 : (decide (0 ≤ f.t) && decide (f.t < t')) = true
      · have h2 : (decide (0 ≤ f.t) && decide (f.t < t)) = true := by simp at h1 ⊢; omega
        rw [List.filter_cons_of_pos (by simpa using h1), List.filter_cons_of_pos (by simpa using h2)]
        simpa using ih
      · rw [List.filter_cons_of_neg (by simpa using h1)]
        refine Nat.le_trans ih ?_
        by_cases h2 : (decide (0 ≤ f.t) && decide (f.t < t)) = true
        · rw [List.filter_cons_of_pos (by simpa using h2)]; simp
        · rw [List.filter_cons_of_neg (by simpa using h2)]; exact Nat.le_refl _
  intro fs
  induction fs with
  | nil => intro t t' k hk; simp at hk
  | cons f fs ih =>
    intro t t' k hk h0 h1 h2
    cases k with
    | zero =>
      simp only [List.getElem_cons_zero] at h0 h1 h2
      have m := mono fs t t' (by omega)
      unfold rkF at m ⊢
      rw [List.filter_cons_of_neg (a := f) (by simp; omega), List.filter_cons_of_pos (a := f) (by simp; omega)]
      simp; omega
    | succ k =>
      have m := ih t t' k (by simpa using hk) (by simpa using h0) (by simpa using h1) (by simpa using h2)
      simp only [List.getElem_cons_succ] at h0 h1 h2
      unfold rkF at m ⊢
      by_cases h3 : (decide (0 ≤ f.t) && decide (f.t < t')) = true
      · have h4 : (decide (0 ≤ f.t) && decide (f.t < t)) = true := by simp at h3 ⊢; omega
        rw [List.filter_cons_of_pos (by simpa using h3), List.filter_cons_of_pos (by simpa using h4)]
        simpa using m
      · rw [List.filter_cons_of_neg (by simpa using h3)]
        refine Nat.lt_of_lt_of_le m ?_
        by_cases h4 : (decide (0 ≤ f.t) && decide (f.t < t)) = true
        · rw [List.filter_cons_of_pos (by simpa using h4)]; simp
        · rw [List.filter_cons_of_neg (by simpa using h4)]; exact Nat.le_refl _
theorem rk_le (fs : List Fa) (t : Int) : rkF fs t ≤ fs.length := List.length_filter_le _ _
/-- Each fall hangs on a push, or on an earlier one. -/
def linked (fs : List Fa) : Prop := ∀ (i : Nat) (hi : i < fs.length), 0 ≤ fs[i].t → fs[i].b = -1 ∨ ∃ (k : Nat) (hk : k < fs.length), fs[i].b = (k : Int) ∧ 0 ≤ fs[k].t ∧ fs[k].t < fs[i].t
theorem candN1_by (ps : List Pc) (fs : List Fa) (i : Nat) (s : Int) (m : Ht) (h : candN1 ps fs i s = some m) : 0 ≤ m.2.2 ∧ m.2.2 < fs.length ∧ (fs.getD m.2.2.toNat default).t ≠ -1 ∧ m.1 = (fs.getD m.2.2.toNat default).t + (ps.getD m.2.2.toNat default).d := by
  unfold candN1 at h
  simp only at h
  split at h
  · rename_i hc
    obtain ⟨c1, c2, c3, c4⟩ := hc
    simp only [Option.some.injEq] at h
    rw [← h]
    exact ⟨c1, c2, c3, rfl⟩
  · cases h
theorem candP_by (ps : List Pc) (pl : List Pu) (i : Nat) (m : Ht) (h : m ∈ candP ps pl i) : m.2.2 = -1 := by
  unfold candP at h
  rw [List.mem_filterMap] at h
  obtain ⟨p, hpm, h⟩ := h
  split at h
  · simp only [Option.some.injEq] at h
    rw [← h]
  · cases h
theorem okFa_linked (ps : List Pc) (pl : List Pu) (fs : List Fa) (G : Good ps pl) (h : okFa ps pl fs) : linked fs := by
  intro i hi ht
  have hip : i < ps.length := by rw [← h.1]; exact hi
  have e := h.2.2 i hip
  rw [getD_fa fs i hi] at e
  unfold due at e
  cases hm : bestH (dueC ps pl fs i) with
  | none => rw [hm] at e; rw [e] at ht; exact absurd ht (by decide)
  | some m =>
    rw [hm] at e
    have e1 : fs[i].t = m.1 := by rw [e]; rfl
    have e2 : fs[i].b = m.2.2 := by rw [e]; rfl
    have hmem := (cand_mem ps pl fs i m).1 (bestH_mem _ m hm)
    rcases hmem.2 with h1 | ⟨s, hs, h1⟩
    · exact .inl (by rw [e2]; exact candP_by ps pl i m h1)
    · obtain ⟨c1, c2, c3, c4⟩ := candN1_by ps fs i s m h1
      have hk : m.2.2.toNat < fs.length := by omega
      have h5 := h.2.1 m.2.2.toNat (by rw [← h.1]; exact hk)
      have h6 := G.d1 m.2.2.toNat (by rw [← h.1]; exact hk)
      rw [getD_fa fs _ hk] at c3 c4 h5
      exact .inr ⟨m.2.2.toNat, hk, by omega, by omega, by omega⟩
end Go.Proofs.Ytmeefmoblkiebaa
/- Contracts: RunBoard (both). -/
namespace Go.Proofs.Ytmeefmoblkiebaa
open Go.RowKit
set_option linter.unusedVariables false
set_option linter.unusedSimpArgs false
set_option maxHeartbeats 400000
set_option maxRecDepth 100000
theorem ask_ok (l : Bd) (pl : List Pu) (h : (vBd l && vPus l pl) = true) : vBd l = true ∧ pl.all plainPu = true ∧ pl.all (fun p => decide (0 ≤ fnd ⟨p.x, p.y⟩ l.ps)) = true ∧ pl.length ≤ 20 := by
  rw [Bool.and_eq_true] at h
  obtain ⟨h1, h2⟩ := h
  unfold vPus at h2
  simp only [Bool.and_eq_true, decide_eq_true_eq] at h2
  exact ⟨h1, h2.1.2, h2.2, h2.1.1⟩
def rbCode (l : Bd) (pl : List Pu) : Int := if (vBd l && vPus l pl) = true then 0 else 1
noncomputable def rbList (l : Bd) (pl : List Pu) : List Fa := if (vBd l && vPus l pl) = true then runOf l.ps pl else []
theorem runOf_len (ps : List Pc) (pl : List Pu) : (runOf ps pl).length ≤ ps.length := Nat.le_of_eq (runOf_length ps pl)
theorem rbList_len (l : Bd) (pl : List Pu) : (rbList l pl).length ≤ l.ps.length := by
  unfold rbList
  split
  · exact runOf_len _ _
  · exact Nat.zero_le _
theorem specRunBoard_any (wd hg : Int) (s : Value) (ps : List Pc) (v1 : Value) (pl : List Pu) (w : World) (hps : PV w s ps) (hok : (Bd.mk wd hg ps).ok) (hn : ps.length ≤ 9000000) (h1 : SV Pu.cells w v1 pl) (ok1 : PusOk pl) (n1 : pl.length ≤ 9000000) :
    Calls Try.prog 7 #[bdv wd hg s, v1] w fun e w' => ∃ v, e = .returned (.tuple #[v, .int .i64 (rbCode ⟨wd, hg, ps⟩ pl)]) ∧ w'.ownsRow w.heap.size 40 3 v (rbList ⟨wd, hg, ps⟩ pl).length (flat Fa.cells (rbList ⟨wd, hg, ps⟩ pl)) ∧ Below w.heap.size w w' := by
  have HB := Lib.hid (BP.new (l := ⟨wd, hg, ps⟩) (w := w) hps 27)
  have hba : Below w.heap.size w (w.alloc (.cells #[.int .i8 wd, .int .i8 hg, s] 27)) := bl_alloc (Below.refl _ _)
  obtain ⟨a, cap, rfl, -⟩ := hps
  obtain ⟨a1, cap1, rfl, h1⟩ := h1
  have H1 := Lib.hid (l02Asked_any (B := w.heap.size) w.heap.size ⟨wd, hg, ps⟩ a1 cap1 pl _ HB.out hok (show ps.length ≤ 10000000 by omega) (h1.below hba (Nat.le_refl _)) ok1 hba.size (by omega))
  have HBA := Lib.hid hba
  clear hba
  cases g1 : (vBd ⟨wd, hg, ps⟩ && vPus ⟨wd, hg, ps⟩ pl) with
  | true =>
    obtain ⟨hv, hpl, hin, hn20⟩ := ask_ok _ _ g1
    have HA : Hid (askV ⟨wd, hg, ps⟩ pl = 0) := Lib.hid (by unfold askV; rw [g1]; rfl)
    have HC : Hid (rbCode ⟨wd, hg, ps⟩ pl = 0) := Lib.hid (by unfold rbCode; rw [g1]; rfl)
    have HL : Hid (rbList ⟨wd, hg, ps⟩ pl = runOf ps pl) := Lib.hid (by unfold rbList; rw [g1]; rfl)
    have HG := Lib.hid (good_bd ⟨wd, hg, ps⟩ hv pl hpl)
    rw [HC.out, HL.out]
    rw [HA.out] at H1
    have HPL := Lib.hid hpl
    have HIN := Lib.hid hin
    clear g1 HC HL HA hpl hin
    go_enter Try.func7, Try.ntmps7
    go_wp2_with fail
    refine H1.out.mono ?_
    rintro e w1 ⟨rfl, hb1⟩
    have hb01 := bl_trans HBA.out hb1
    have HF := Lib.hid (l02Run_any (B := w.heap.size) w.heap.size ⟨wd, hg, ps⟩ a1 cap1 pl w1 (HB.out.step hb1) hv (h1.below hb01 (Nat.le_refl _)) ok1 HPL.out HIN.out hn20 hb01.size)
    have HB01 := Lib.hid hb01
    clear hb01 hb1
    go_wp2_with fail
    refine HF.out.mono ?_
    rintro e w2 ⟨v, fs, rfl, hown, hokf, -, hb2⟩
    have he := runOf_eq _ _ _ HG.out hokf
    subst he
    have hown2 := own_mono (base := w.heap.size) hown HB01.out.size
    have hb02 := bl_trans HB01.out hb2
    go_wp2
    go_ret2
    exact ⟨v, rfl, hown2, hb02⟩
  | false =>
    have HA : Hid (askV ⟨wd, hg, ps⟩ pl = 1) := Lib.hid (by unfold askV; rw [g1]; rfl)
    have HC : Hid (rbCode ⟨wd, hg, ps⟩ pl = 1) := Lib.hid (by unfold rbCode; rw [g1]; rfl)
    have HL : Hid (rbList ⟨wd, hg, ps⟩ pl = []) := Lib.hid (by unfold rbList; rw [g1]; rfl)
    rw [HC.out, HL.out]
    rw [HA.out] at H1
    clear g1 HC HL HA
    go_enter Try.func7, Try.ntmps7
    go_wp2_with fail
    refine H1.out.mono ?_
    rintro e w1 ⟨rfl, hb1⟩
    have hb01 := bl_trans HBA.out hb1
    have hown := World.ownsRow_made (e := 40) (size := 3) w1 #[] 0 (Nat.le_refl _) (by simp [maxLen]) rfl
    have hown2 := own_mono (base := w.heap.size) hown hb01.size
    go_wp2
    go_ret2
    exact ⟨_, rfl, hown2, bl_alloc hb01⟩
theorem box3 {w : World} {v0 v1 v2 : Value} {T : TypeId} (w1 : World) (hb : Below (w.alloc (.cells #[v0, v1, v2] T)).heap.size (w.alloc (.cells #[v0, v1, v2] T)) w1) : w1.cell? ⟨w.heap.size, 0, none⟩ = some v0 ∧ w1.cell? ⟨w.heap.size, 1, none⟩ = some v1 ∧ w1.cell? ⟨w.heap.size, 2, none⟩ = some v2 := by
  have h := sl_new w #[v0, v1, v2] T
  have key : ∀ j (hj : j < 3), w1.cell? ⟨w.heap.size, j, none⟩ = some ([v0, v1, v2][j]) := by
    intro j hj
    obtain ⟨b, off, h1, h2, h3⟩ := h j (by simpa using hj)
    simp only [Option.some.injEq, Addr.mk.injEq, and_true] at h1
    obtain ⟨rfl, rfl⟩ := h1
    rw [Nat.zero_add] at h3
    rw [hb.cell (p := ⟨_, _, none⟩) (by simp), h3]
  exact ⟨key 0 (by omega), key 1 (by omega), key 2 (by omega)⟩
end Go.Proofs.Ytmeefmoblkiebaa
/- The falls of a board are a proof: plain law. -/
namespace Go.Proofs.Ytmeefmoblkiebaa
open Go.RowKit
set_option linter.unusedVariables false
set_option linter.unusedSimpArgs false
set_option maxHeartbeats 400000
set_option maxRecDepth 100000
theorem candN1_side (ps : List Pc) (fs : List Fa) (i : Nat) (s : Int) (m : Ht) (h : candN1 ps fs i s = some m) : m.2.1 = s := by
  unfold candN1 at h
  simp only at h
  split at h
  · simp only [Option.some.injEq] at h
    rw [← h]
  · cases h
theorem candP_some (ps : List Pc) (pl : List Pu) (i : Nat) (m : Ht) (h : m ∈ candP ps pl i) : ∃ p ∈ pl, m = (p.t, p.s, -1) := by
  unfold candP at h
  rw [List.mem_filterMap] at h
  obtain ⟨p, hpm, h⟩ := h
  split at h
  · simp only [Option.some.injEq] at h
    exact ⟨p, hpm, h.symm⟩
  · cases h
theorem ok_fall (ps : List Pc) (pl : List Pu) (fs : List Fa) (G : Good ps pl) (hpl : pl.all plainPu = true) (h : okFa ps pl fs) : ∀ (r i : Nat) (hi : i < fs.length), rkF fs fs[i].t = r → fs[i].t ≤ 1000 + 9 * (r : Int) ∧ (0 ≤ fs[i].f ∧ fs[i].f ≤ 3) ∧ -1 ≤ fs[i].b ∧ fs[i].b < fs.length := by
  intro r
  induction r using Nat.strongRecOn with
  | _ r ih =>
    intro i hi hr
    have hip : i < ps.length := by rw [← h.1]; exact hi
    have e := h.2.2 i hip
    rw [getD_fa fs i hi] at e
    unfold due at e
    cases hm : bestH (dueC ps pl fs i) with
    | none =>
      rw [hm] at e
      rw [e]
      refine ⟨?_, ⟨?_, ?_⟩, ?_, ?_⟩ <;> simp only [faOf] <;> omega
    | some m =>
      rw [hm] at e
      have e1 : fs[i].t = m.1 := by rw [e]; rfl
      have e3 : fs[i].f = m.2.1 := by rw [e]; rfl
      have e2 : fs[i].b = m.2.2 := by rw [e]; rfl
      have hmem := (cand_mem ps pl fs i m).1 (bestH_mem _ m hm)
      rcases hmem.2 with h1 | ⟨s, hs, h1⟩
      · obtain ⟨p, hp, rfl⟩ := candP_some ps pl i m h1
        have h2 := List.all_eq_true.1 hpl p hp
        simp only [plainPu, inB, Bool.and_eq_true, decide_eq_true_eq] at h2
        simp only at e1 e2 e3
        refine ⟨by omega, ⟨by omega, by omega⟩, by omega, by omega⟩
      · obtain ⟨c1, c2, c3, c4⟩ := candN1_by ps fs i s m h1
        have c5 := candN1_side ps fs i s m h1
        have hk : m.2.2.toNat < fs.length := by omega
        have hkp : m.2.2.toNat < ps.length := by rw [← h.1]; exact hk
        have h5 := h.2.1 m.2.2.toNat hkp
        have h6 := G.d1 m.2.2.toNat hkp
        have h7 := G.d9 m.2.2.toNat hkp
        rw [getD_fa fs _ hk] at c3 c4 h5
        have h8 := rk_lt fs fs[i].t fs[m.2.2.toNat].t m.2.2.toNat hk (by omega) (by omega) (Int.le_refl _)
        have h9 := ih _ (by omega) m.2.2.toNat hk rfl
        refine ⟨by omega, ⟨by omega, by omega⟩, by omega, by omega⟩
structure Prf (l : Bd) (pl : List Pu) (fs : List Fa) : Prop where
  ok : okFa l.ps pl fs
  len : fs.length = l.ps.length
  n200 : l.ps.length ≤ 200
  tick : ∀ (i : Nat) (hi : i < fs.length), (-1 ≤ fs[i].t ∧ fs[i].t ≤ 2800) ∧ (0 ≤ fs[i].f ∧ fs[i].f ≤ 3) ∧ -1 ≤ fs[i].b ∧ fs[i].b < 200
theorem prf_of (l : Bd) (pl : List Pu) (h : (vBd l && vPus l pl) = true) : Prf l pl (runOf l.ps pl) := by
  obtain ⟨hv, hpl, -, -⟩ := ask_ok l pl h
  have G := good_bd l hv pl hpl
  have hok := runOf_ok l.ps pl G
  obtain ⟨-, -, -, -, hn⟩ := vBd_bounds l hv
  refine ⟨hok, hok.1, hn, fun i hi => ?_⟩
  obtain ⟨h1, h2, h3, h4⟩ := ok_fall l.ps pl _ G hpl hok _ i hi rfl
  have h5 := rk_le (runOf l.ps pl) (runOf l.ps pl)[i].t
  have h6 := hok.1
  have h7 := hok.2.1 i (by omega)
  rw [getD_fa _ i hi] at h7
  exact ⟨⟨h7, by omega⟩, h2, h3, by omega⟩
def smallFa (f : Fa) : Prop := (-1 ≤ f.t ∧ f.t ≤ 2810) ∧ (0 ≤ f.f ∧ f.f ≤ 3) ∧ -1 ≤ f.b ∧ f.b < 200
theorem Prf.small {l : Bd} {pl : List Pu} {fs : List Fa} (h : Prf l pl fs) : ∀ f ∈ fs, smallFa f := by
  intro f hf
  obtain ⟨i, hi, rfl⟩ := List.getElem_of_mem hf
  have := h.tick i hi
  exact ⟨⟨this.1.1, by omega⟩, this.2.1, this.2.2⟩
theorem small_v {ws : List Fa} (h : ∀ f ∈ ws, smallFa f) : vFas ws = true ∧ FasOk ws := by
  refine ⟨?_, fun k hk => ?_⟩
  · unfold vFas
    rw [List.all_eq_true]
    intro f hf
    obtain ⟨⟨h1, h2⟩, ⟨h3, h4⟩, h5, h6⟩ := h f hf
    simp only [inB, Bool.and_eq_true, decide_eq_true_eq]
    omega
  · obtain ⟨⟨h1, h2⟩, ⟨h3, h4⟩, h5, h6⟩ := h _ (List.getElem_mem hk)
    exact ⟨⟨by omega, by omega⟩, ⟨by omega, by omega⟩, ⟨by omega, by omega⟩⟩
theorem wrong_none (ps : List Pc) (pl : List Pu) (fs : List Fa) (h : okFa ps pl fs) (i : Nat) (hi : i < ps.length) : wrongAt ps pl fs i = false := by
  have hif : i < fs.length := by rw [h.1]; exact hi
  rw [wrong_in ps pl fs i hif, decide_eq_false_iff_not, Decidable.not_not, ← getD_fa fs i hif]
  exact h.2.2 i hi
theorem Prf.fine {l : Bd} {pl : List Pu} {fs : List Fa} (h : Prf l pl fs) : firstWrong l.ps pl fs = -1 := by
  rw [firstWrong_none l.ps pl fs (fun i hi => wrong_none _ _ _ h.ok i hi), if_neg (by have := h.len; omega)]
theorem fw_neg (ps : List Pc) (pl : List Pu) (ws : List Fa) (hl : ws.length = ps.length) (h : firstWrong ps pl ws < 0) (i : Nat) (hi : i < ps.length) : ws.getD i default = due ps pl ws i := by
  unfold firstWrong at h
  cases hf : (List.range ps.length).find? (wrongAt ps pl ws) with
  | some j => rw [hf] at h; simp only at h; omega
  | none =>
    rw [List.find?_eq_none] at hf
    have := hf i (List.mem_range.2 hi)
    rw [wrong_in ps pl ws i (by omega)] at this
    simp only [decide_eq_true_eq, Decidable.not_not] at this
    rw [getD_fa ws i (by omega)]
    exact this
theorem Prf.told {l : Bd} {pl : List Pu} {fs : List Fa} (h : Prf l pl fs) (hg : (vBd l && vPus l pl) = true) (ws : List Fa) (hl : ws.length = l.ps.length) (hs : ∀ f ∈ ws, smallFa f) : firstWrong l.ps pl ws < 0 ↔ ws = fs := by
  constructor
  · intro hf
    obtain ⟨hv, hpl, -, -⟩ := ask_ok l pl hg
    have G := good_bd l hv pl hpl
    refine due_unique l.ps pl ws fs G.d1 G.t0 ⟨hl, ?_, fun i hi => fw_neg l.ps pl ws hl hf i hi⟩ h.ok
    intro i hi
    rw [getD_fa ws i (by omega)]
    exact (hs _ (List.getElem_mem _)).1.1
  · rintro rfl
    rw [h.fine]
    decide
theorem fw_le (ps : List Pc) (pl : List Pu) (ws : List Fa) (k : Nat) (hk : k < ps.length) (hw : wrongAt ps pl ws k = true) : 0 ≤ firstWrong ps pl ws ∧ firstWrong ps pl ws ≤ k := by
  unfold firstWrong
  cases hf : (List.range ps.length).find? (wrongAt ps pl ws) with
  | none =>
    rw [List.find?_eq_none] at hf
    exact absurd hw (hf k (List.mem_range.2 hk))
  | some j =>
    rw [List.find?_eq_some_iff_getElem] at hf
    obtain ⟨-, i, hi, hij, hlt⟩ := hf
    rw [List.getElem_range] at hij
    refine ⟨by show (0 : Int) ≤ j; omega, ?_⟩
    show (j : Int) ≤ k
    by_cases hjk : k < i
    · have := hlt k hjk
      rw [List.getElem_range, hw] at this
      cases this
    · omega
theorem Prf.short {l : Bd} {pl : List Pu} {fs : List Fa} (h : Prf l pl fs) (k : Nat) (hk : k < fs.length) : 0 ≤ firstWrong l.ps pl (fs.take k) ∧ firstWrong l.ps pl (fs.take k) ≤ k := by
  have := h.len
  refine fw_le l.ps pl _ k (by omega) ?_
  unfold wrongAt
  rw [decide_eq_true (by rw [List.length_take]; omega), Bool.true_or]
theorem Prf.long {l : Bd} {pl : List Pu} {fs : List Fa} (h : Prf l pl fs) : firstWrong l.ps pl (fs ++ [stF]) = (fs.length : Int) := by
  have hl := h.len
  have e : fs ++ [stF] = padF fs 1 := by rw [padF_succ, padF_zero]
  rw [e, firstWrong_none, if_pos (by rw [padF_len]; omega), hl]
  intro i hi
  have hif : i < fs.length := by omega
  rw [wrong_in l.ps pl (padF fs 1) i (by rw [padF_len]; omega), due_pad, decide_eq_false_iff_not, Decidable.not_not]
  have h1 : (padF fs 1)[i]'(by rw [padF_len]; omega) = fs[i] := by
    unfold padF
    rw [List.getElem_append_left hif]
  rw [h1, ← getD_fa fs i hif]
  exact h.ok.2.2 i hi
end Go.Proofs.Ytmeefmoblkiebaa
/- Bits of whole numbers: and, or, xor, shifts. -/
namespace Go.Proofs.Ytmeefmoblkiebaa
open Go.RowKit
set_option linter.unusedVariables false
set_option linter.unusedSimpArgs false
theorem wrap_u64 (n : Int) (h0 : 0 ≤ n) (h1 : n < 18446744073709551616) : IntKind.u64.wrap n = n := by
  simp [IntKind.wrap, IntKind.bits, IntKind.signed]; omega
theorem wrap_i64' (n : Int) (h0 : -9223372036854775808 ≤ n) (h1 : n ≤ 9223372036854775807) : IntKind.i64.wrap n = n := by
  rw [IntKind.wrap_i64]; omega
theorem bits_u64 (a b : Nat) (ha : a < 18446744073709551616) (hb : b < 18446744073709551616) :
    bits .and .u64 (a : Int) (b : Int) = ((a &&& b : Nat) : Int) ∧ bits .or .u64 (a : Int) (b : Int) = ((a ||| b : Nat) : Int) ∧ bits .xor .u64 (a : Int) (b : Int) = ((a ^^^ b : Nat) : Int) := by
  have e : (18446744073709551616 : Nat) = 2 ^ 64 := by decide
  have h1 : (a &&& b) < 2 ^ 64 := Nat.and_lt_two_pow a (by rw [← e]; exact hb)
  have h2 : (a ||| b) < 2 ^ 64 := Nat.or_lt_two_pow (by rw [← e]; exact ha) (by rw [← e]; exact hb)
  have h3 : (a ^^^ b) < 2 ^ 64 := Nat.xor_lt_two_pow (by rw [← e]; exact ha) (by rw [← e]; exact hb)
  rw [e] at ha hb
  refine ⟨?_, ?_, ?_⟩
  · show IntKind.u64.wrap ((BitVec.ofInt 64 (a : Int) &&& BitVec.ofInt 64 (b : Int)).toNat : Int) = _
    rw [BitVec.ofInt_natCast, BitVec.ofInt_natCast, BitVec.toNat_and, BitVec.toNat_ofNat, BitVec.toNat_ofNat, Nat.mod_eq_of_lt ha, Nat.mod_eq_of_lt hb]
    exact wrap_u64 _ (by omega) (by rw [← e] at h1; omega)
  · show IntKind.u64.wrap ((BitVec.ofInt 64 (a : Int) ||| BitVec.ofInt 64 (b : Int)).toNat : Int) = _
    rw [BitVec.ofInt_natCast, BitVec.ofInt_natCast, BitVec.toNat_or, BitVec.toNat_ofNat, BitVec.toNat_ofNat, Nat.mod_eq_of_lt ha, Nat.mod_eq_of_lt hb]
    exact wrap_u64 _ (by omega) (by rw [← e] at h2; omega)
  · show IntKind.u64.wrap ((BitVec.ofInt 64 (a : Int) ^^^ BitVec.ofInt 64 (b : Int)).toNat : Int) = _
    rw [BitVec.ofInt_natCast, BitVec.ofInt_natCast, BitVec.toNat_xor, BitVec.toNat_ofNat, BitVec.toNat_ofNat, Nat.mod_eq_of_lt ha, Nat.mod_eq_of_lt hb]
    exact wrap_u64 _ (by omega) (by rw [← e] at h3; omega)
theorem bits_i64 (a b : Nat) (ha : a < 9223372036854775808) (hb : b < 9223372036854775808) :
    bits .and .i64 (a : Int) (b : Int) = ((a &&& b : Nat) : Int) ∧ bits .or .i64 (a : Int) (b : Int) = ((a ||| b : Nat) : Int) ∧ bits .xor .i64 (a : Int) (b : Int) = ((a ^^^ b : Nat) : Int) := by
  have e : (9223372036854775808 : Nat) = 2 ^ 63 := by decide
  have e2 : (9223372036854775808 : Nat) < 2 ^ 64 := by decide
  have h1 : (a &&& b) < 2 ^ 63 := Nat.and_lt_two_pow a (by rw [← e]; exact hb)
  have h2 : (a ||| b) < 2 ^ 63 := Nat.or_lt_two_pow (by rw [← e]; exact ha) (by rw [← e]; exact hb)
  have h3 : (a ^^^ b) < 2 ^ 63 := Nat.xor_lt_two_pow (by rw [← e]; exact ha) (by rw [← e]; exact hb)
  have ha2 := Nat.lt_trans ha e2
  have hb2 := Nat.lt_trans hb e2
  refine ⟨?_, ?_, ?_⟩
  · show IntKind.i64.wrap ((BitVec.ofInt 64 (a : Int) &&& BitVec.ofInt 64 (b : Int)).toNat : Int) = _
    rw [BitVec.ofInt_natCast, BitVec.ofInt_natCast, BitVec.toNat_and, BitVec.toNat_ofNat, BitVec.toNat_ofNat, Nat.mod_eq_of_lt ha2, Nat.mod_eq_of_lt hb2]
    exact wrap_i64' _ (by omega) (by rw [← e] at h1; omega)
  · show IntKind.i64.wrap ((BitVec.ofInt 64 (a : Int) ||| BitVec.ofInt 64 (b : Int)).toNat : Int) = _
    rw [BitVec.ofInt_natCast, BitVec.ofInt_natCast, BitVec.toNat_or, BitVec.toNat_ofNat, BitVec.toNat_ofNat, Nat.mod_eq_of_lt ha2, Nat.mod_eq_of_lt hb2]
    exact wrap_i64' _ (by omega) (by rw [← e] at h2; omega)
  · show IntKind.i64.wrap ((BitVec.ofInt 64 (a : Int) ^^^ BitVec.ofInt 64 (b : Int)).toNat : Int) = _
    rw [BitVec.ofInt_natCast, BitVec.ofInt_natCast, BitVec.toNat_xor, BitVec.toNat_ofNat, BitVec.toNat_ofNat, Nat.mod_eq_of_lt ha2, Nat.mod_eq_of_lt hb2]
    exact wrap_i64' _ (by omega) (by rw [← e] at h3; omega)
/-- Bit i of a number. -/
def bitN (n i : Nat) : Bool := n.testBit i
theorem bit_and (n i : Nat) : ((n / 2 ^ i) &&& 1 : Nat) = if bitN n i = true then 1 else 0 := by
  unfold bitN
  rw [Nat.testBit_eq_decide_div_mod_eq, Nat.and_one_is_mod]
  rcases Nat.mod_two_eq_zero_or_one (n / 2 ^ i) with h | h <;> simp [h]
end Go.Proofs.Ytmeefmoblkiebaa
/- Contracts: the source of choices (spec.l00Src). -/
namespace Go.Proofs.Ytmeefmoblkiebaa
open Go.RowKit
set_option linter.unusedVariables false
set_option linter.unusedSimpArgs false
set_option maxHeartbeats 400000
set_option maxRecDepth 100000
abbrev U8c (n : Int) : List Value := [.int .u8 n]
theorem U8c_len (n : Int) : (U8c n).length = 1 := rfl
def BytesOk (code : List Int) : Prop := code.length ≤ 10000 ∧ ∀ k (h : k < code.length), 0 ≤ code[k] ∧ code[k] ≤ 255
/-- A source of choices: at most k have been drawn. -/
def SrcAt (w : World) (p : Nat) (code : List Int) (k : Nat) : Prop :=
  ∃ (a : Option Addr) (cap n : Nat) (seed : Int), w.heap[p]? = some (.cells #[.slice a code.length cap, .int .i64 (n : Int), .int .u64 seed] 68 (0, 0)) ∧ SlAt p w a (flat U8c code) ∧ n ≤ k
theorem SrcAt.lt {w : World} {p : Nat} {code : List Int} {k : Nat} (h : SrcAt w p code k) : p < w.heap.size := by
  obtain ⟨a, cap, n, seed, hh, -⟩ := h
  exact lt_of_block hh
theorem SrcAt.le {w : World} {p : Nat} {code : List Int} {k k' : Nat} (h : SrcAt w p code k) (hk : k ≤ k') : SrcAt w p code k' := by
  obtain ⟨a, cap, n, seed, hh, h1, h2⟩ := h
  exact ⟨a, cap, n, seed, hh, h1, Nat.le_trans h2 hk⟩
theorem SlAt.grownP {B p : Nat} {w w' : World} {a : Option Addr} {xs : List Value} {row : Option Nat} (hp : SlAt B w a xs) (h : w.grownBy w' row) (hB : B ≤ w.heap.size) (hr : ∀ g, row = some g → B ≤ g) : SlAt B w' a xs := by
  intro i hi
  obtain ⟨b, off, h1, h2, h3⟩ := hp i hi
  refine ⟨b, off, h1, h2, ?_⟩
  rw [World.cell?_of_block (a := ⟨b, off + i, none⟩) (h.block b (by omega) (fun e => by have := hr b e.symm; omega))]
  exact h3
/-- A source that is left alone. -/
theorem SrcAt.grown {w w' : World} {p : Nat} {code : List Int} {k : Nat} {row : Option Nat} (h : SrcAt w p code k) (hg : w.grownBy w' row) (hr : ∀ g, row = some g → p < g) : SrcAt w' p code k := by
  have hlt := h.lt
  obtain ⟨a, cap, n, seed, hh, h1, h2⟩ := h
  refine ⟨a, cap, n, seed, ?_, h1.grownP (p := p) hg (by omega) (fun g e => by have := hr g e; omega), h2⟩
  rw [hg.block p hlt (fun e => by have := hr p e.symm; omega)]
  exact hh
theorem SrcAt.step {w w' : World} {p : Nat} {code : List Int} {k B : Nat} (h : SrcAt w p code k) (hb : Below B w w') (hp : p < B) : SrcAt w' p code k := by
  obtain ⟨a, cap, n, seed, hh, h1, h2⟩ := h
  exact ⟨a, cap, n, seed, by rw [hb.block p hp]; exact hh, h1.below hb (by omega), h2⟩
theorem three_cells {w : World} {p : Nat} {x y z : Value} {T : TypeId} (h : w.heap[p]? = some (.cells #[x, y, z] T (0, 0))) :
    w.cell? ⟨p, 0, none⟩ = some x ∧ w.cell? ⟨p, 1, none⟩ = some y ∧ w.cell? ⟨p, 2, none⟩ = some z ∧ ∀ i, w.frozen? ⟨p, i, none⟩ = false := by
  refine ⟨by simp [World.cell?, h], by simp [World.cell?, h], by simp [World.cell?, h], fun i => by simp [World.frozen?, h]⟩
theorem three_set1 {w : World} {p : Nat} {x y z u : Value} {T : TypeId} (h : w.heap[p]? = some (.cells #[x, y, z] T (0, 0))) : (w.setCell ⟨p, 1, none⟩ u).heap[p]? = some (.cells #[x, u, z] T (0, 0)) := by
  have hlt := lt_of_block h
  have h' : w.heap[p] = .cells #[x, y, z] T (0, 0) := by simpa [Array.getElem?_eq_getElem hlt] using h
  show (w.heap.modify p _)[p]? = _
  rw [Array.getElem?_eq_getElem (by simpa using hlt), Array.getElem_modify_self, h']
  rfl
theorem three_set2 {w : World} {p : Nat} {x y z u : Value} {T : TypeId} (h : w.heap[p]? = some (.cells #[x, y, z] T (0, 0))) : (w.setCell ⟨p, 2, none⟩ u).heap[p]? = some (.cells #[x, y, u] T (0, 0)) := by
  have hlt := lt_of_block h
  have h' : w.heap[p] = .cells #[x, y, z] T (0, 0) := by simpa [Array.getElem?_eq_getElem hlt] using h
  show (w.heap.modify p _)[p]? = _
  rw [Array.getElem?_eq_getElem (by simpa using hlt), Array.getElem_modify_self, h']
  rfl
theorem grown_set1 (w : World) (p o : Nat) (u : Value) : w.grownBy (w.setCell ⟨p, o, none⟩ u) (some p) :=
  ⟨rfl, rfl, rfl, by simp, fun k _ hk => heap_setCell_other w ⟨p, o, none⟩ k u (fun e => hk (by simp [e]))⟩
theorem and255 (y : Int) : 0 ≤ bits .and .u64 y 255 ∧ bits .and .u64 y 255 ≤ 255 := by
  have h1 : ((BitVec.ofInt 64 y &&& BitVec.ofInt 64 255).toNat : Nat) ≤ 255 := by
    rw [BitVec.toNat_and]
    exact Nat.le_trans Nat.and_le_right (by decide)
  have h2 : bits .and .u64 y 255 = ((BitVec.ofInt 64 y &&& BitVec.ofInt 64 255).toNat : Int) := by
    show IntKind.u64.wrap ((BitVec.ofInt 64 y &&& BitVec.ofInt 64 255).toNat : Int) = _
    exact wrap_u64 _ (by omega) (by omega)
  rw [h2]
  omega
theorem src_facts {w : World} {p n k cap : Nat} {seed : Int} {code : List Int} {a : Option Addr} (hh : w.heap[p]? = some (.cells #[.slice a code.length cap, .int .i64 (n : Int), .int .u64 seed] 68 (0, 0))) (hsl : SlAt p w a (flat U8c code)) (hle : n ≤ k) :
    ∀ W : World, w.grownBy W none → w.grownBy W (some p) ∧ (W.cell? ⟨p, 0, none⟩ = some (.slice a code.length cap) ∧ W.cell? ⟨p, 1, none⟩ = some (.int .i64 (n : Int)) ∧ W.cell? ⟨p, 2, none⟩ = some (.int .u64 seed) ∧ ∀ i, W.frozen? ⟨p, i, none⟩ = false) ∧
      ((W.setCell ⟨p, 1, none⟩ (.int .i64 ((n : Int) + 1))).cell? ⟨p, 0, none⟩ = some (.slice a code.length cap) ∧ (W.setCell ⟨p, 1, none⟩ (.int .i64 ((n : Int) + 1))).cell? ⟨p, 1, none⟩ = some (.int .i64 ((n : Int) + 1)) ∧ (W.setCell ⟨p, 1, none⟩ (.int .i64 ((n : Int) + 1))).cell? ⟨p, 2, none⟩ = some (.int .u64 seed) ∧ ∀ i, (W.setCell ⟨p, 1, none⟩ (.int .i64 ((n : Int) + 1))).frozen? ⟨p, i, none⟩ = false) ∧
      (∀ u : Int, ((W.setCell ⟨p, 1, none⟩ (.int .i64 ((n : Int) + 1))).setCell ⟨p, 2, none⟩ (.int .u64 u)).cell? ⟨p, 0, none⟩ = some (.slice a code.length cap)) ∧
      (∀ u : Int, ((W.setCell ⟨p, 1, none⟩ (.int .i64 ((n : Int) + 1))).setCell ⟨p, 2, none⟩ (.int .u64 u)).cell? ⟨p, 1, none⟩ = some (.int .i64 ((n : Int) + 1))) ∧
      (∀ u : Int, ((W.setCell ⟨p, 1, none⟩ (.int .i64 ((n : Int) + 1))).setCell ⟨p, 2, none⟩ (.int .u64 u)).cell? ⟨p, 2, none⟩ = some (.int .u64 u)) ∧ True ∧
      (∀ u : Int, SrcAt ((W.setCell ⟨p, 1, none⟩ (.int .i64 ((n : Int) + 1))).setCell ⟨p, 2, none⟩ (.int .u64 u)) p code (k + 1) ∧ w.grownBy ((W.setCell ⟨p, 1, none⟩ (.int .i64 ((n : Int) + 1))).setCell ⟨p, 2, none⟩ (.int .u64 u)) (some p)) := by
  intro W hg
  have hlt := lt_of_block hh
  have hgp : w.grownBy W (some p) := ⟨hg.os, hg.tape, hg.output, hg.size, fun k hk _ => hg.block k hk (by simp)⟩
  have hH : W.heap[p]? = some (.cells #[.slice a code.length cap, .int .i64 (n : Int), .int .u64 seed] 68 (0, 0)) := by rw [hg.block p hlt (by simp)]; exact hh
  have hltW := lt_of_block hH
  have h1 := three_set1 (u := .int .i64 ((n : Int) + 1)) hH
  refine ⟨hgp, three_cells hH, three_cells h1, fun u => (three_cells (three_set2 h1)).1, fun u => (three_cells (three_set2 h1)).2.1, fun u => (three_cells (three_set2 h1)).2.2.1, trivial, ?_⟩
  intro u
  have h2 := three_set2 (u := .int .u64 u) h1
  refine ⟨⟨a, cap, n + 1, u, h2, ?_, by omega⟩, grown_trans hgp (grown_trans (grown_set1 W p 1 _) (grown_set1 _ p 2 _))⟩
  have h3 : SlAt p W a (flat U8c code) := hsl.grownP (p := p) hg (by omega) (fun g e => by cases e)
  exact (h3.grownP (p := p) (grown_set1 W p 1 _) (by omega) (fun g e => by cases e; exact Nat.le_refl _)).grownP (p := p) (grown_set1 _ p 2 _) (by simp; omega) (fun g e => by cases e; exact Nat.le_refl _)
theorem wrap_i8' {n : Int} (h1 : -9000000000000000000 ≤ n) (h2 : n ≤ 9000000000000000000) : wrap64 n = n := by unfold wrap64; omega
theorem l00From_any (a : Option Addr) (cap : Nat) (code : List Int) (w : World) (h : SlAt w.heap.size w a (flat U8c code)) :
    Calls Try.prog 14 #[.slice a code.length cap] w fun e w' => e = .returned (.pointer (some ⟨w.heap.size, 0, none⟩)) ∧ SrcAt w' w.heap.size code 0 ∧ Below w.heap.size w w' := by
  have hb : Below w.heap.size w (w.alloc (.cells #[.slice a code.length cap, .int .i64 0, .int .u64 0] 68)) := bl_alloc (Below.refl _ _)
  have hs : SrcAt (w.alloc (.cells #[.slice a code.length cap, .int .i64 0, .int .u64 0] 68)) w.heap.size code 0 := by
    refine ⟨a, cap, 0, 0, ?_, h.below hb (Nat.le_refl _), Nat.le_refl _⟩
    exact heap_alloc_new _ _
  go_enter Try.func14, Try.ntmps14
  go_wp2
  go_ret
  exact ⟨rfl, hs, hb⟩
theorem srcNext_any (p : Nat) (code : List Int) (k : Nat) (w : World) (hs : SrcAt w p code k) (hc : BytesOk code) (hk : k ≤ 1000000) :
    Calls Try.prog 58 #[.pointer (some ⟨p, 0, none⟩)] w fun e w' => ∃ v : Int, e = .returned (.int .i64 v) ∧ 0 ≤ v ∧ v ≤ 255 ∧ SrcAt w' p code (k + 1) ∧ w.grownBy w' (some p) := by
  obtain ⟨a, cap, n, seed, hh, hsl, hle⟩ := hs
  have hlt := lt_of_block hh
  have FACTS := Lib.hid (src_facts (code := code) (k := k) hh hsl hle)
  obtain ⟨c0, c1, c2, hf⟩ := three_cells hh
  have hw : IntKind.i64.wrap ((n : Int) + 1) = (n : Int) + 1 := wrap_i64' _ (by omega) (by omega)
  have hcl := hc.1
  rcases dec_cases ((n : Int) < (code.length : Int)) with ⟨g1, g2⟩ | ⟨g1, g2⟩
  · have hn : n < code.length := by omega
    obtain ⟨b, off, rfl, hbp, hget⟩ := hsl.get U8c_len (by omega) hn
    have hget0 := hget 0 _ rfl
    rw [Nat.mul_one, Nat.add_zero] at hget0
    obtain ⟨b0, b1⟩ := hc.2 n hn
    obtain ⟨v, hv⟩ : ∃ v, v = code[n] := ⟨_, rfl⟩
    rw [← hv] at hget0 b0 b1
    have hwv : IntKind.i64.wrap v = v := wrap_i64' _ (by omega) (by omega)
    have g3 : decide ((n : Int) + 1 ≤ (code.length : Int)) = true := by simp; omega
    clear hget hsl hle hv hh
    go_enter Try.func58, Try.ntmps58
    go_wp2_with fail
    go_quiet (fail)
    go_wp2_with fail
    go_quiet (fail)
    generalize hW : World.drewN _ nq = W
    obtain ⟨hgW, ⟨p0, p1, p2, pf⟩, ⟨d0, d1, d2, hf1⟩, e0, e1, e2, -, key⟩ := FACTS.out W (by rw [← hW]; exact ⟨rfl, rfl, rfl, Nat.le_refl _, fun _ _ _ => rfl⟩)
    clear c0 c1 c2 hf hget0 hW
    go_wp2
    go_quiet (fail)
    go_wp2
    go_ret
    obtain ⟨K1, K2⟩ := key (IntKind.u64.wrap (IntKind.u64.wrap (IntKind.u64.wrap (seed * 6364136223846793005) + v) + 1442695040888963407))
    exact ⟨_, rfl, b0, b1, K1.grown (row := none) ⟨rfl, rfl, rfl, Nat.le_refl _, fun _ _ _ => rfl⟩ (fun g e => by cases e), grown_trans K2 ⟨rfl, rfl, rfl, Nat.le_refl _, fun _ _ _ => rfl⟩⟩
  · have g3 : decide ((n : Int) + 1 ≤ (code.length : Int)) = false := by simp; omega
    clear hsl hle hh
    go_enter Try.func58, Try.ntmps58
    go_wp2_with fail
    go_quiet (fail)
    generalize hW : World.drewN _ nq = W
    obtain ⟨hgW, ⟨p0, p1, p2, pf⟩, ⟨d0, d1, d2, hf1⟩, e0, e1, e2, -, key⟩ := FACTS.out W (by rw [← hW]; exact ⟨rfl, rfl, rfl, Nat.le_refl _, fun _ _ _ => rfl⟩)
    clear c0 c1 c2 hf hW
    go_wp2
    go_quiet (fail)
    go_wp2
    go_ret
    obtain ⟨K1, K2⟩ := key (IntKind.u64.wrap (IntKind.u64.wrap (IntKind.u64.wrap (seed * 6364136223846793005)) + 1442695040888963407))
    have h255 := and255 (IntKind.u64.wrap (IntKind.u64.wrap (IntKind.u64.wrap (seed * 6364136223846793005)) + 1442695040888963407) / 1099511627776)
    have e255 : wrap64 (bits .and .u64 (IntKind.u64.wrap (IntKind.u64.wrap (IntKind.u64.wrap (seed * 6364136223846793005)) + 1442695040888963407) / 1099511627776) 255) = bits .and .u64 (IntKind.u64.wrap (IntKind.u64.wrap (IntKind.u64.wrap (seed * 6364136223846793005)) + 1442695040888963407) / 1099511627776) 255 := wrap_i8' (by omega) (by omega)
    refine ⟨_, rfl, ?_, ?_, K1.grown (row := none) ⟨rfl, rfl, rfl, Nat.le_refl _, fun _ _ _ => rfl⟩ (fun g e => by cases e), grown_trans K2 ⟨rfl, rfl, rfl, Nat.le_refl _, fun _ _ _ => rfl⟩⟩
    · rw [e255]; exact h255.1
    · rw [e255]; exact h255.2
end Go.Proofs.Ytmeefmoblkiebaa
