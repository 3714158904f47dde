import Derived.Test.YtollihgjcmiolaaK2
import Derived.Deep.RegionHeld3
/- A region that draws its order and ends in stores: loads may be taken first where nobody writes their cells AHEAD OF THE STORES. -/
namespace Go.Proofs.Ytollihgjcmiolaa
open Go.RowKit
set_option linter.unusedVariables false
set_option linter.unusedSimpArgs false
set_option maxHeartbeats 400000
set_option maxRecDepth 100000
section
variable {P : Program} {ops : Array Oper} {Q : Exit → Act → World → Prop} {md : Region.Mode} {S : World → Prop} {z n : Nat}
/-- Whatever order is picked, and S holds behind each operation from number z to n. -/
def wpAnyT (P : Program) (md : Region.Mode) (ops : Array Oper) (Q : Exit → Act → World → Prop) (S : World → Prop) (z n : Nat) : Nat → Array Bool → Act → World → Prop
  | 0, listed, a, w => Region.ready md ops listed = [] ∧ Q .normal a w
  | fuel + 1, listed, a, w =>
    (Region.ready md ops listed = [] → Q .normal a w) ∧
    ∀ i ∈ Region.ready md ops listed, wpOp P ops Q i (fun a' w' => (z ≤ i → i < n → S w') ∧ wpAnyT P md ops Q S z n fuel (listed.setIfInBounds i true) a' w') a w
theorem wpAny_of_T : ∀ (fuel : Nat) (listed : Array Bool) (a : Act) (w : World), wpAnyT P md ops Q S z n fuel listed a w → wpAny P md ops Q fuel listed a w
  | 0, _, _, _, h => h
  | fuel + 1, _, _, _, h => ⟨h.1, fun i hi => wpOp_mono (fun a' w' h' => wpAny_of_T fuel _ a' w' h'.2) (h.2 i hi)⟩
/-- Number j cannot come up ahead of number i. -/
def mustB (md : Region.Mode) (ops : Array Oper) : Nat → Nat → Nat → Bool
  | 0, _, _ => false
  | f + 1, i, j => match ops[j]? with
    | some oj => oj.after.any fun e => Region.binds md e && (e.on == i || mustB md ops f i e.on)
    | none => false
def Closed (md : Region.Mode) (ops : Array Oper) (listed : Array Bool) : Prop :=
  ∀ j oj, ops[j]? = some oj → listed.getD j false = true → ∀ e ∈ oj.after, Region.binds md e = true → listed.getD e.on false = true
theorem must_listed {listed : Array Bool} (hc : Closed md ops listed) : ∀ (f i j : Nat) (oj : Oper), ops[j]? = some oj → (∀ e ∈ oj.after, Region.binds md e = true → listed.getD e.on false = true) → mustB md ops f i j = true → listed.getD i false = true := by
  intro f
  induction f with
  | zero => intro i j oj hj he h; cases h
  | succ f ih =>
    intro i j oj hj he h
    unfold mustB at h
    rw [hj] at h
    simp only at h
    obtain ⟨e, hmem, hb⟩ := Array.any_eq_true'.1 h
    simp only [Bool.and_eq_true, Bool.or_eq_true, beq_iff_eq] at hb
    obtain ⟨hb1, hb2⟩ := hb
    have hl := he e hmem hb1
    rcases hb2 with rfl | hb2
    · exact hl
    · cases hq : ops[e.on]? with
      | none =>
        cases f with
        | zero => cases hb2
        | succ f => unfold mustB at hb2; rw [hq] at hb2; cases hb2
      | some oq => exact ih i e.on oq hq (hc e.on oq hq hl) hb2
theorem Closed.set {listed : Array Bool} (hc : Closed md ops listed) {i : Nat} (hi : i ∈ Region.ready md ops listed) : Closed md ops (listed.setIfInBounds i true) := by
  obtain ⟨_, oi, hoi, hall⟩ := mem_ready.1 hi
  intro j oj hj hl e he hb
  by_cases hij : i = j
  · subst hij
    have : oj = oi := Option.some.inj (hj.symm.trans hoi)
    subst this
    exact getD_set_true (hall e he hb)
  · rw [getD_set_ne false hij] at hl
    exact getD_set_true (hc j oj hj hl e he hb)
theorem wpAnyT_first {i : Nat} {oi : Oper} {v : Value} {F : Nat} (hi : ops[i]? = some oi) (hsel : ∀ (j : Nat) (o : Oper) cs b, ops[j]? = some o → o.op ≠ .select cs b)
    (hQ : ∀ c a w, Q (.panic c) (a.put oi.dst v) w → Q (.panic c) a w) (htail : ∀ j, n ≤ j → j < ops.size → mustB md ops F i j = true) :
    ∀ (fuel : Nat) (listed : Array Bool) (a : Act) (w : World), Closed md ops listed →
      (∀ j oj, ops[j]? = some oj → j ≠ i → listed.getD j true = false → (∀ e ∈ oj.after, Region.binds md e = true → e.on ≠ i) → oi.apart ops oj = true) →
      (∀ j, j < z → listed.getD j false = true) →
      i ∈ Region.ready md ops listed → YieldsIf P ops S oi v a → S w →
      wpAnyT P md ops Q S z n fuel (listed.setIfInBounds i true) (a.put oi.dst v) w → wpAnyT P md ops Q S z n (fuel + 1) listed a w := by
  intro fuel
  induction fuel with
  | zero =>
    intro listed a w _ _ _ hr hy hS H
    refine ⟨fun h => (by rw [h] at hr; cases hr), fun j hj => ?_⟩
    by_cases hji : j = i
    · subst hji; exact hy.wpOp hi hS ⟨fun _ _ => hS, H⟩
    · have := ready_mono hj hji
      rw [H.1] at this
      cases this
  | succ fuel ih =>
    intro listed a w hcl hfree hz hr hy hS H
    refine ⟨fun h => (by rw [h] at hr; cases hr), fun j hj => ?_⟩
    by_cases hji : j = i
    · subst hji; exact hy.wpOp hi hS ⟨fun _ _ => hS, H⟩
    · have h1 := H.2 j (ready_mono hj hji)
      obtain ⟨hjun, oj, hoj, hall⟩ := mem_ready.1 hj
      have hiun := (mem_ready.1 hr).1
      have hjn : j < n := by
        rcases Nat.lt_or_ge j n with h | h
        · exact h
        · have := must_listed hcl F i j oj hoj hall (htail j h (Array.getElem?_eq_some_iff.1 hoj).1)
          rcases Nat.lt_or_ge i listed.size with h' | h'
          · simp [h'] at hiun this; rw [hiun] at this; cases this
          · simp [Array.getElem?_eq_none h'] at hiun
      have hjz : z ≤ j := by
        rcases Nat.lt_or_ge j z with h | h
        · have h3 := hz j h
          rcases Nat.lt_or_ge j listed.size with h' | h'
          · simp [h'] at hjun h3; rw [hjun] at h3; cases h3
          · simp [Array.getElem?_eq_none h'] at h3
        · exact h
      have hnot : ∀ e ∈ oj.after, Region.binds md e = true → e.on ≠ i := fun e he hb heq => by
        have h1 := hall e he hb
        rw [heq] at h1
        rcases Nat.lt_or_ge i listed.size with h' | h'
        · simp [h'] at hiun h1; rw [hiun] at h1; cases h1
        · simp [Array.getElem?_eq_none h'] at h1
      have h2 := wpOp_putIf hoj (hfree j oj hoj hji hjun hnot) (fun cs b => hsel i oi cs b hi) (fun cs b => hsel j oj cs b hoj) hQ hy h1
      have hfree' : ∀ k ok, ops[k]? = some ok → k ≠ i → (listed.setIfInBounds j true).getD k true = false →
          (∀ e ∈ ok.after, Region.binds md e = true → e.on ≠ i) → oi.apart ops ok = true := fun k ok hk hki hun hno => by
        refine hfree k ok hk hki ?_ hno
        by_cases hjk : j = k
        · subst hjk; exact hjun
        · rw [getD_set_ne true hjk] at hun; exact hun
      refine wpOp_mono (fun a' w' h3 => ⟨h3.2.1, ih (listed.setIfInBounds j true) a' w' (hcl.set hj) hfree' (fun k hk => getD_set_true (hz k hk)) (ready_mono hr (Ne.symm hji)) h3.1 (h3.2.1 hjz hjn) ?_⟩) h2
      rw [Array.setIfInBounds_comm _ _ hji]
      exact h3.2.2
theorem wpAnyT_firstP {i : Nat} {oi : Oper} {v : Value} (hi : ops[i]? = some oi) (hiz : i < z) (hsel : ∀ (j : Nat) (o : Oper) cs b, ops[j]? = some o → o.op ≠ .select cs b)
    (hQ : ∀ c a w, Q (.panic c) (a.put oi.dst v) w → Q (.panic c) a w) :
    ∀ (fuel : Nat) (listed : Array Bool) (a : Act) (w : World),
      (∀ j oj, ops[j]? = some oj → j ≠ i → listed.getD j true = false → (∀ e ∈ oj.after, Region.binds md e = true → e.on ≠ i) → oi.apart ops oj = true) →
      i ∈ Region.ready md ops listed → YieldsIf P ops (fun _ => True) oi v a →
      wpAnyT P md ops Q S z n fuel (listed.setIfInBounds i true) (a.put oi.dst v) w → wpAnyT P md ops Q S z n (fuel + 1) listed a w := by
  intro fuel
  induction fuel with
  | zero =>
    intro listed a w _ hr hy H
    refine ⟨fun h => (by rw [h] at hr; cases hr), fun j hj => ?_⟩
    by_cases hji : j = i
    · subst hji; exact hy.wpOp hi trivial ⟨fun h => absurd h (by omega), H⟩
    · have := ready_mono hj hji
      rw [H.1] at this
      cases this
  | succ fuel ih =>
    intro listed a w hfree hr hy H
    refine ⟨fun h => (by rw [h] at hr; cases hr), fun j hj => ?_⟩
    by_cases hji : j = i
    · subst hji; exact hy.wpOp hi trivial ⟨fun h => absurd h (by omega), H⟩
    · have h1 := H.2 j (ready_mono hj hji)
      obtain ⟨hjun, oj, hoj, hall⟩ := mem_ready.1 hj
      have hiun := (mem_ready.1 hr).1
      have hnot : ∀ e ∈ oj.after, Region.binds md e = true → e.on ≠ i := fun e he hb heq => by
        have h1 := hall e he hb
        rw [heq] at h1
        rcases Nat.lt_or_ge i listed.size with h' | h'
        · simp [h'] at hiun h1; rw [hiun] at h1; cases h1
        · simp [Array.getElem?_eq_none h'] at h1
      have h2 := wpOp_putIf hoj (hfree j oj hoj hji hjun hnot) (fun cs b => hsel i oi cs b hi) (fun cs b => hsel j oj cs b hoj) hQ hy h1
      have hfree' : ∀ k ok, ops[k]? = some ok → k ≠ i → (listed.setIfInBounds j true).getD k true = false →
          (∀ e ∈ ok.after, Region.binds md e = true → e.on ≠ i) → oi.apart ops ok = true := fun k ok hk hki hun hno => by
        refine hfree k ok hk hki ?_ hno
        by_cases hjk : j = k
        · subst hjk; exact hjun
        · rw [getD_set_ne true hjk] at hun; exact hun
      refine wpOp_mono (fun a' w' h3 => ⟨h3.2.1, ih (listed.setIfInBounds j true) a' w' hfree' (ready_mono hr (Ne.symm hji)) h3.1 ?_⟩) h2
      rw [Array.setIfInBounds_comm _ _ hji]
      exact h3.2.2
def closedB (md : Region.Mode) (ops : Array Oper) (listed : Array Bool) : Bool :=
  (List.range ops.size).all fun j => !listed.getD j false || match ops[j]? with
    | some oj => oj.after.all fun e => !Region.binds md e || listed.getD e.on false
    | none => true
theorem closedB_spec {listed : Array Bool} (h : closedB md ops listed = true) : Closed md ops listed := by
  intro j oj hj hl e he hb
  have hjs : j < ops.size := (Array.getElem?_eq_some_iff.1 hj).1
  have h1 := List.all_eq_true.1 h j (List.mem_range.2 hjs)
  rw [hl, hj] at h1
  simp only [Bool.not_true, Bool.false_or] at h1
  have h2 := Array.all_eq_true'.1 h1 e he
  rw [hb] at h2
  simpa using h2
def tailB (md : Region.Mode) (ops : Array Oper) (F n i : Nat) : Bool := (List.range ops.size).all fun j => decide (j < n) || mustB md ops F i j
theorem tailB_spec {F i : Nat} (h : tailB md ops F n i = true) : ∀ j, n ≤ j → j < ops.size → mustB md ops F i j = true := by
  intro j h1 h2
  have := List.all_eq_true.1 h j (List.mem_range.2 h2)
  simp only [Bool.or_eq_true, decide_eq_true_eq] at this
  rcases this with h' | h'
  · omega
  · exact h'
theorem wpAnyT_take (F i : Nat) {oi : Oper} {v : Value} {fuel : Nat} {listed : Array Bool} {a : Act} {w : World} (hi : ops[i]? = some oi)
    (hs : Region.noSelect ops = true) (hf : Region.free md ops listed i = true) (hr : (Region.ready md ops listed).contains i = true) (hcl : closedB md ops listed = true) (ht : tailB md ops F n i = true) (hz : ((List.range z).all fun j => listed.getD j false) = true)
    (hQ : ∀ c a w, Q (.panic c) (a.put oi.dst v) w → Q (.panic c) a w) (hy : YieldsIf P ops S oi v a) (hS : S w)
    (h : wpAnyT P md ops Q S z n fuel (listed.setIfInBounds i true) (a.put oi.dst v) w) : wpAnyT P md ops Q S z n (fuel + 1) listed a w :=
  wpAnyT_first hi (Region.noSelect_spec hs) hQ (tailB_spec ht) fuel listed a w (closedB_spec hcl) (Region.free_spec hi hf) (fun j hj => List.all_eq_true.1 hz j (List.mem_range.2 hj)) (by simpa using hr) hy hS h
/-- What yields its value in whatever world, and is one of the first z. -/
theorem wpAnyT_takeP (i : Nat) {oi : Oper} {v : Value} {fuel : Nat} {listed : Array Bool} {a : Act} {w : World} (hi : ops[i]? = some oi) (hiz : i < z)
    (hs : Region.noSelect ops = true) (hf : Region.free md ops listed i = true) (hr : (Region.ready md ops listed).contains i = true)
    (hQ : ∀ c a w, Q (.panic c) (a.put oi.dst v) w → Q (.panic c) a w) (hy : YieldsIf P ops (fun _ => True) oi v a)
    (h : wpAnyT P md ops Q S z n fuel (listed.setIfInBounds i true) (a.put oi.dst v) w) : wpAnyT P md ops Q S z n (fuel + 1) listed a w :=
  wpAnyT_firstP hi hiz (Region.noSelect_spec hs) hQ fuel listed a w (Region.free_spec hi hf) (by simpa using hr) hy h
def AllReadyT (P : Program) (md : Region.Mode) (ops : Array Oper) (Q : Exit → Act → World → Prop) (S : World → Prop) (z n fuel : Nat) (listed : Array Bool) (a : Act) (w : World) (rs : List Nat) : Prop :=
  ∀ i ∈ rs, wpOp P ops Q i (fun a' w' => (z ≤ i → i < n → S w') ∧ wpAnyT P md ops Q S z n fuel (listed.setIfInBounds i true) a' w') a w
theorem AllReadyT.nil {fuel : Nat} {listed : Array Bool} {a : Act} {w : World} : AllReadyT P md ops Q S z n fuel listed a w [] := fun _ h => by cases h
theorem AllReadyT.cons {fuel : Nat} {listed : Array Bool} {a : Act} {w : World} {i : Nat} {o : Oper} {rs : List Nat} (ho : ops[i]? = some o)
    (h : ∀ K' : Act → World → Prop, Shut (∀ a w, (z ≤ i → i < n → S w) → ((z ≤ i → i < n → S w) → wpAnyT P md ops Q S z n fuel (listed.setIfInBounds i true) a w) → K' a w) → if Region.wanted o (yielded ops a.tmps) = true then Oper.wp P o a w K' Q else K' (a.put o.dst undef) w)
    (hs : AllReadyT P md ops Q S z n fuel listed a w rs) : AllReadyT P md ops Q S z n fuel listed a w (i :: rs) := fun j hj => by
  rcases List.mem_cons.1 hj with rfl | hj
  · exact wpOp_step ho (fun K' hK => h K' (fun a w hS hW => hK a w ⟨hS, hW hS⟩))
  · exact hs j hj
theorem wpAnyT_ready {rs : List Nat} {fuel : Nat} {listed : Array Bool} {a : Act} {w : World} (hr : Region.ready md ops listed = rs) (hne : rs ≠ [])
    (h : AllReadyT P md ops Q S z n fuel listed a w rs) : wpAnyT P md ops Q S z n (fuel + 1) listed a w := ⟨fun h0 => absurd (hr ▸ h0) hne, hr ▸ h⟩
theorem wpAnyT_done {listed : Array Bool} {a : Act} {w : World} (hr : Region.ready md ops listed = []) (h : Q .normal a w) : ∀ fuel, wpAnyT P md ops Q S z n fuel listed a w
  | 0 => ⟨hr, h⟩
  | _ + 1 => ⟨fun _ => h, by rw [hr]; simp⟩
theorem wp_region_T {id : Nat} {a : Act} {w : World} (z n : Nat) (S : World → Prop) (hm : P.follows .mixedOrders = true) (hS : S w.drew)
    (h : S w.drew → wpAnyT P .any ops Q S z n ops.size (Array.replicate ops.size false) a w.drew) : (Code.region id ops true).wp P Q a w :=
  wp_region_any hm (wpAny_of_T _ _ _ _ (h hS))
theorem tail_cut {fuel : Nat} {listed : Array Bool} {a : Act} {w : World} (R : Nat → Nat → Nat → Nat → Nat → Nat → Nat → Nat → Nat → World → Prop) (V : Nat → Nat → Nat → Nat → Nat → Nat → Nat → Nat → Nat → Act → Act) (f' : Nat) (Ls : Array Bool → Array Bool)
    (htail : ∀ L1 L2 L3 g1 c1 g2 c2 g3 c3 Y, R L1 L2 L3 g1 c1 g2 c2 g3 c3 Y → wpAnyT P md ops Q S z n f' (Ls listed) (V L1 L2 L3 g1 c1 g2 c2 g3 c3 a) Y)
    (hmain : (∀ L1 L2 L3 g1 c1 g2 c2 g3 c3 Y, R L1 L2 L3 g1 c1 g2 c2 g3 c3 Y → wpAnyT P md ops Q S z n f' (Ls listed) (V L1 L2 L3 g1 c1 g2 c2 g3 c3 a) Y) → wpAnyT P md ops Q S z n fuel listed a w) : wpAnyT P md ops Q S z n fuel listed a w := hmain htail
end
end Go.Proofs.Ytollihgjcmiolaa
/- What holds of the world while a stage's three rows are appended to. -/
namespace Go.Proofs.Ytollihgjcmiolaa
open Go.RowKit
set_option linter.unusedVariables false
set_option linter.unusedSimpArgs false
set_option maxHeartbeats 400000
set_option maxRecDepth 100000
structure Cst where
  w : World
  kv : List (Ce × Value)
  sv : Value
  v1 : Value
  v2 : Value
  v3 : Value
  b8 : Nat
  a0 : Value
  a1 : Value
  a2 : Value
  a3 : Value
  e0 : Value
  e1 : Value
  e2 : Value
  e3 : Value
structure R3 (K : Cst) (Y : World) (Ls : List (Nat × Array Value × TypeId)) (x1 x2 x3 : Value) (n1 n2 n3 : Nat) (c1 c2 c3 : List Value) : Prop where
  st : Y.ownsRow K.w.heap.size 108 4 (.slice (some ⟨K.w.heap.size, 0, none⟩) 1 1) 1 [K.sv, K.v1, K.v2, K.v3]
  r1 : Y.ownsRow (K.w.heap.size + 2) 110 1 x1 n1 c1
  r2 : Y.ownsRow (K.w.heap.size + 2) 111 4 x2 n2 c2
  r3 : Y.ownsRow (K.w.heap.size + 2) 112 4 x3 n3 c3
  d12 : ∀ q, x1.ownBlock = some q → x2.ownBlock ≠ some q
  d13 : ∀ q, x1.ownBlock = some q → x3.ownBlock ≠ some q
  d23 : ∀ q, x2.ownBlock = some q → x3.ownBlock ≠ some q
  mp : MapAt Y (K.w.heap.size + 1) K.kv
  bw : Below K.w.heap.size K.w Y
  o10 : Y.ownsRow (K.b8 + 1) 111 4 (.slice (some ⟨K.b8 + 1, 0, none⟩) 1 1) 1 [K.a0, K.a1, K.a2, K.a3]
  o11 : Y.ownsRow (K.b8 + 1) 112 4 (.slice (some ⟨K.b8 + 1 + 1, 0, none⟩) 1 1) 1 [K.e0, K.e1, K.e2, K.e3]
  lits : ∀ p ∈ Ls, K.b8 + 1 + 1 < p.1 ∧ Y.heap[p.1]? = some (.cells p.2.1 p.2.2 (0, 0))
theorem R3.step {K : Cst} {Y Y' : World} {Ls : List (Nat × Array Value × TypeId)} {x1 x2 x3 : Value} {n1 n2 n3 : Nat} {c1 c2 c3 : List Value} (h : R3 K Y Ls x1 x2 x3 n1 n2 n3 c1 c2 c3) (hb : Below Y.heap.size Y Y') : R3 K Y' Ls x1 x2 x3 n1 n2 n3 c1 c2 c3 where
  st := own_below h.st hb (Nat.le_refl _)
  r1 := own_below h.r1 hb (Nat.le_refl _)
  r2 := own_below h.r2 hb (Nat.le_refl _)
  r3 := own_below h.r3 hb (Nat.le_refl _)
  d12 := h.d12
  d13 := h.d13
  d23 := h.d23
  mp := map_below h.mp hb (map_lt h.mp)
  bw := bl_trans h.bw hb
  o10 := own_below h.o10 hb (Nat.le_refl _)
  o11 := own_below h.o11 hb (Nat.le_refl _)
  lits := fun p hp => ⟨(h.lits p hp).1, by rw [hb.block p.1 (Array.getElem?_eq_some_iff.1 (h.lits p hp).2).1]; exact (h.lits p hp).2⟩
theorem R3.lit {K : Cst} {Y : World} {Ls : List (Nat × Array Value × TypeId)} {x1 x2 x3 : Value} {n1 n2 n3 : Nat} {c1 c2 c3 : List Value} (h : R3 K Y Ls x1 x2 x3 n1 n2 n3 c1 c2 c3) (cs : Array Value) (T : TypeId) : R3 K (Y.alloc (.cells cs T)) ((Y.heap.size, cs, T) :: Ls) x1 x2 x3 n1 n2 n3 c1 c2 c3 :=
  { h.step (bl_alloc (o := .cells cs T) (Below.refl _ Y)) with
    lits := by
      intro p hp
      rcases List.mem_cons.1 hp with rfl | hp
      · exact ⟨(h.o11.lt _ rfl).2, heap_alloc_new Y _⟩
      · exact (h.step (bl_alloc (o := .cells cs T) (Below.refl _ Y))).lits p hp }
theorem R3.forget {K : Cst} {Y : World} {Ls : List (Nat × Array Value × TypeId)} {x1 x2 x3 : Value} {n1 n2 n3 : Nat} {c1 c2 c3 : List Value} (h : R3 K Y Ls x1 x2 x3 n1 n2 n3 c1 c2 c3) : R3 K Y [] x1 x2 x3 n1 n2 n3 c1 c2 c3 :=
  { h with lits := fun p hp => by cases hp }
/-- The cells that the loads read. -/
theorem R3.S {K : Cst} {Y : World} {Ls : List (Nat × Array Value × TypeId)} {x1 x2 x3 : Value} {n1 n2 n3 : Nat} {c1 c2 c3 : List Value} (h : R3 K Y Ls x1 x2 x3 n1 n2 n3 c1 c2 c3) :
    Y.cell? ⟨K.w.heap.size, 1, none⟩ = some K.v1 ∧ Y.cell? ⟨K.w.heap.size, 2, none⟩ = some K.v2 ∧ Y.cell? ⟨K.w.heap.size, 3, none⟩ = some K.v3 ∧
    Y.cell? ⟨K.b8 + 1, 0, none⟩ = some K.a0 ∧ Y.cell? ⟨K.b8 + 1, 1, none⟩ = some K.a1 ∧ Y.cell? ⟨K.b8 + 1, 2, none⟩ = some K.a2 ∧ Y.cell? ⟨K.b8 + 1, 3, none⟩ = some K.a3 ∧
    Y.cell? ⟨K.b8 + 1 + 1, 0, none⟩ = some K.e0 ∧ Y.cell? ⟨K.b8 + 1 + 1, 1, none⟩ = some K.e1 ∧ Y.cell? ⟨K.b8 + 1 + 1, 2, none⟩ = some K.e2 ∧ Y.cell? ⟨K.b8 + 1 + 1, 3, none⟩ = some K.e3 := by
  refine ⟨?_, ?_, ?_, ?_, ?_, ?_, ?_, ?_, ?_, ?_, ?_⟩
  · rw [h.st.cellAt _ (by omega)]; rfl
  · rw [h.st.cellAt _ (by omega)]; rfl
  · rw [h.st.cellAt _ (by omega)]; rfl
  · rw [h.o10.cellAt _ (by omega)]; rfl
  · rw [h.o10.cellAt _ (by omega)]; rfl
  · rw [h.o10.cellAt _ (by omega)]; rfl
  · rw [h.o10.cellAt _ (by omega)]; rfl
  · rw [h.o11.cellAt _ (by omega)]; rfl
  · rw [h.o11.cellAt _ (by omega)]; rfl
  · rw [h.o11.cellAt _ (by omega)]; rfl
  · rw [h.o11.cellAt _ (by omega)]; rfl
theorem R3.app1 {K : Cst} {Y Y' : World} {Ls : List (Nat × Array Value × TypeId)} {x1 x2 x3 : Value} {n1 n2 n3 : Nat} {c1 c2 c3 : List Value} (h : R3 K Y Ls x1 x2 x3 n1 n2 n3 c1 c2 c3) (hlo : ∀ q, x1.ownBlock = some q → q < K.b8) {g cap : Nat} {c' : List Value}
    (hown : Y'.ownsRow (K.w.heap.size + 2) 110 1 (.slice (some ⟨g, 0, none⟩) (n1 + 1) cap) (n1 + 1) c') (hg : Y.grownBy Y' x1.ownBlock) (hat : x1.ownBlock = some g ∨ g = Y.heap.size) : R3 K Y' Ls (.slice (some ⟨g, 0, none⟩) (n1 + 1) cap) x2 x3 (n1 + 1) n2 n3 c' c2 c3 where
  st := own_kept h.st hg (fun q hq e => by have h9 : some K.w.heap.size = some q := hq; cases h9; have := (h.r1.lt _ (by first | exact e | exact e.symm)).1; omega)
  r1 := hown
  r2 := own_kept h.r2 hg (fun q hq e => by first | exact h.d12 q e hq | exact h.d12 q e.symm hq)
  r3 := own_kept h.r3 hg (fun q hq e => by first | exact h.d13 q e hq | exact h.d13 q e.symm hq)
  d12 := fun q hq e => by
    have h9 : some g = some q := hq
    cases h9
    rcases hat with h1 | h1
    · exact h.d12 g h1 e
    · have := (h.r2.lt g e).2; omega
  d13 := fun q hq e => by
    have h9 : some g = some q := hq
    cases h9
    rcases hat with h1 | h1
    · exact h.d13 g h1 e
    · have := (h.r3.lt g e).2; omega
  d23 := h.d23
  mp := by
    obtain ⟨es, clock, m1, m2⟩ := h.mp
    exact ⟨es, clock, by rw [hg.block _ (map_lt h.mp) (fun e => by have := (h.r1.lt _ e.symm).1; omega)]; exact m1, m2⟩
  bw := bl_grown h.bw hg (fun q hq => by have := (h.r1.lt q hq).1; omega)
  o10 := own_kept h.o10 hg (fun q hq e => by have h9 : some (K.b8 + 1) = some q := hq; cases h9; have := hlo _ (by first | exact e | exact e.symm); omega)
  o11 := own_kept h.o11 hg (fun q hq e => by have h9 : some (K.b8 + 1 + 1) = some q := hq; cases h9; have := hlo _ (by first | exact e | exact e.symm); omega)
  lits := fun p hp => ⟨(h.lits p hp).1, by rw [hg.block p.1 (Array.getElem?_eq_some_iff.1 (h.lits p hp).2).1 (fun e => by have := hlo _ e.symm; have := (h.lits p hp).1; omega)]; exact (h.lits p hp).2⟩
theorem R3.app2 {K : Cst} {Y Y' : World} {Ls : List (Nat × Array Value × TypeId)} {x1 x2 x3 : Value} {n1 n2 n3 : Nat} {c1 c2 c3 : List Value} (h : R3 K Y Ls x1 x2 x3 n1 n2 n3 c1 c2 c3) (hlo : ∀ q, x2.ownBlock = some q → q < K.b8) {g cap : Nat} {c' : List Value}
    (hown : Y'.ownsRow (K.w.heap.size + 2) 111 4 (.slice (some ⟨g, 0, none⟩) (n2 + 1) cap) (n2 + 1) c') (hg : Y.grownBy Y' x2.ownBlock) (hat : x2.ownBlock = some g ∨ g = Y.heap.size) : R3 K Y' Ls x1 (.slice (some ⟨g, 0, none⟩) (n2 + 1) cap) x3 n1 (n2 + 1) n3 c1 c' c3 where
  st := own_kept h.st hg (fun q hq e => by have h9 : some K.w.heap.size = some q := hq; cases h9; have := (h.r2.lt _ (by first | exact e | exact e.symm)).1; omega)
  r1 := own_kept h.r1 hg (fun q hq e => by first | exact h.d12 q hq e | exact h.d12 q hq e.symm)
  r2 := hown
  r3 := own_kept h.r3 hg (fun q hq e => by first | exact h.d23 q e hq | exact h.d23 q e.symm hq)
  d12 := fun q hq e => by
    have h9 : some g = some q := e
    cases h9
    rcases hat with h1 | h1
    · exact h.d12 g hq h1
    · have := (h.r1.lt g hq).2; omega
  d13 := h.d13
  d23 := fun q hq e => by
    have h9 : some g = some q := hq
    cases h9
    rcases hat with h1 | h1
    · exact h.d23 g h1 e
    · have := (h.r3.lt g e).2; omega
  mp := by
    obtain ⟨es, clock, m1, m2⟩ := h.mp
    exact ⟨es, clock, by rw [hg.block _ (map_lt h.mp) (fun e => by have := (h.r2.lt _ e.symm).1; omega)]; exact m1, m2⟩
  bw := bl_grown h.bw hg (fun q hq => by have := (h.r2.lt q hq).1; omega)
  o10 := own_kept h.o10 hg (fun q hq e => by have h9 : some (K.b8 + 1) = some q := hq; cases h9; have := hlo _ (by first | exact e | exact e.symm); omega)
  o11 := own_kept h.o11 hg (fun q hq e => by have h9 : some (K.b8 + 1 + 1) = some q := hq; cases h9; have := hlo _ (by first | exact e | exact e.symm); omega)
  lits := fun p hp => ⟨(h.lits p hp).1, by rw [hg.block p.1 (Array.getElem?_eq_some_iff.1 (h.lits p hp).2).1 (fun e => by have := hlo _ e.symm; have := (h.lits p hp).1; omega)]; exact (h.lits p hp).2⟩
theorem R3.app3 {K : Cst} {Y Y' : World} {Ls : List (Nat × Array Value × TypeId)} {x1 x2 x3 : Value} {n1 n2 n3 : Nat} {c1 c2 c3 : List Value} (h : R3 K Y Ls x1 x2 x3 n1 n2 n3 c1 c2 c3) (hlo : ∀ q, x3.ownBlock = some q → q < K.b8) {g cap : Nat} {c' : List Value}
    (hown : Y'.ownsRow (K.w.heap.size + 2) 112 4 (.slice (some ⟨g, 0, none⟩) (n3 + 1) cap) (n3 + 1) c') (hg : Y.grownBy Y' x3.ownBlock) (hat : x3.ownBlock = some g ∨ g = Y.heap.size) : R3 K Y' Ls x1 x2 (.slice (some ⟨g, 0, none⟩) (n3 + 1) cap) n1 n2 (n3 + 1) c1 c2 c' where
  st := own_kept h.st hg (fun q hq e => by have h9 : some K.w.heap.size = some q := hq; cases h9; have := (h.r3.lt _ (by first | exact e | exact e.symm)).1; omega)
  r1 := own_kept h.r1 hg (fun q hq e => by first | exact h.d13 q hq e | exact h.d13 q hq e.symm)
  r2 := own_kept h.r2 hg (fun q hq e => by first | exact h.d23 q hq e | exact h.d23 q hq e.symm)
  r3 := hown
  d12 := h.d12
  d13 := fun q hq e => by
    have h9 : some g = some q := e
    cases h9
    rcases hat with h1 | h1
    · exact h.d13 g hq h1
    · have := (h.r1.lt g hq).2; omega
  d23 := fun q hq e => by
    have h9 : some g = some q := e
    cases h9
    rcases hat with h1 | h1
    · exact h.d23 g hq h1
    · have := (h.r2.lt g hq).2; omega
  mp := by
    obtain ⟨es, clock, m1, m2⟩ := h.mp
    exact ⟨es, clock, by rw [hg.block _ (map_lt h.mp) (fun e => by have := (h.r3.lt _ e.symm).1; omega)]; exact m1, m2⟩
  bw := bl_grown h.bw hg (fun q hq => by have := (h.r3.lt q hq).1; omega)
  o10 := own_kept h.o10 hg (fun q hq e => by have h9 : some (K.b8 + 1) = some q := hq; cases h9; have := hlo _ (by first | exact e | exact e.symm); omega)
  o11 := own_kept h.o11 hg (fun q hq e => by have h9 : some (K.b8 + 1 + 1) = some q := hq; cases h9; have := hlo _ (by first | exact e | exact e.symm); omega)
  lits := fun p hp => ⟨(h.lits p hp).1, by rw [hg.block p.1 (Array.getElem?_eq_some_iff.1 (h.lits p hp).2).1 (fun e => by have := hlo _ e.symm; have := (h.lits p hp).1; omega)]; exact (h.lits p hp).2⟩
theorem Try.infoSides : (Try.prog.info? 110).map (fun i => (i.zero, i.size, i.bytes)) = some (some (.int .u8 0), 1, 1) := by kernel_rfl
theorem Try.info4Sides : (Try.prog.info? 111).map (fun i => (i.zero, i.size, i.bytes)) = some (some (.agg #[.int .u8 0, .int .u8 0, .int .u8 0, .int .u8 0]), 4, 4) := by kernel_rfl
theorem Try.info4Int : (Try.prog.info? 112).map (fun i => (i.zero, i.size, i.bytes)) = some (some (.agg #[.int .i64 0, .int .i64 0, .int .i64 0, .int .i64 0]), 4, 32) := by kernel_rfl
theorem R3.done {K : Cst} {Y : World} {Ls : List (Nat × Array Value × TypeId)} {x1 x2 x3 : Value} {n1 n2 n3 : Nat} {c1 c2 c3 : List Value} (h : R3 K Y Ls x1 x2 x3 n1 n2 n3 c1 c2 c3) :
    (setCells Y K.w.heap.size 1 [x1, x2, x3]).ownsRow K.w.heap.size 108 4 (.slice (some ⟨K.w.heap.size, 0, none⟩) 1 1) 1 [K.sv, x1, x2, x3] ∧
    (setCells Y K.w.heap.size 1 [x1, x2, x3]).ownsRow (K.w.heap.size + 2) 110 1 x1 n1 c1 ∧ (setCells Y K.w.heap.size 1 [x1, x2, x3]).ownsRow (K.w.heap.size + 2) 111 4 x2 n2 c2 ∧ (setCells Y K.w.heap.size 1 [x1, x2, x3]).ownsRow (K.w.heap.size + 2) 112 4 x3 n3 c3 ∧
    MapAt (setCells Y K.w.heap.size 1 [x1, x2, x3]) (K.w.heap.size + 1) K.kv ∧ (∀ q, x1.ownBlock = some q → x2.ownBlock ≠ some q ∧ x3.ownBlock ≠ some q) ∧ (∀ q, x2.ownBlock = some q → x3.ownBlock ≠ some q) ∧ K.w.heap.size + 1 < (setCells Y K.w.heap.size 1 [x1, x2, x3]).heap.size ∧ Below K.w.heap.size K.w (setCells Y K.w.heap.size 1 [x1, x2, x3]) := by
  have hs := own_setCells [x1, x2, x3] (A := [K.sv]) (R := [K.v1, K.v2, K.v3]) (j := 1) h.st rfl (Nat.le_refl _)
  have hg := grown_setCells K.w.heap.size [x1, x2, x3] Y 1
  have hk : ∀ v : Value, (∀ q, v.ownBlock = some q → K.w.heap.size + 2 ≤ q) → ∀ q, v.ownBlock = some q → some q ≠ some K.w.heap.size := fun v hv q hq e => by cases e; have := hv _ hq; omega
  have hb := bl_grown h.bw hg (fun q hq => by cases hq; exact Nat.le_refl _)
  have hm := map_lt h.mp
  refine ⟨hs, own_kept h.r1 hg (hk x1 fun q hq => (h.r1.lt q hq).1), own_kept h.r2 hg (hk x2 fun q hq => (h.r2.lt q hq).1), own_kept h.r3 hg (hk x3 fun q hq => (h.r3.lt q hq).1), ?_, fun q hq => ⟨h.d12 q hq, h.d13 q hq⟩, h.d23, ?_, hb⟩
  · obtain ⟨es, clock, m1, m2⟩ := h.mp
    exact ⟨es, clock, by rw [hg.block _ hm (fun e => by simp at e)]; exact m1, m2⟩
  · exact Nat.lt_of_lt_of_le hm hg.size
end Go.Proofs.Ytollihgjcmiolaa
/- Contracts: the stage of a board. -/
namespace Go.Proofs.Ytollihgjcmiolaa
open Go.RowKit
set_option linter.unusedVariables false
set_option linter.unusedSimpArgs false
set_option maxHeartbeats 400000
set_option maxRecDepth 100000
theorem vBd_cell (l : Bd) (h : vBd l = true) (k : Nat) (hk : k < l.ps.length) : 0 ≤ l.ps[k].x ∧ l.ps[k].x < 24 ∧ 0 ≤ l.ps[k].y ∧ l.ps[k].y < 24 := by
  obtain ⟨c1, c2, c3, c4, -⟩ := vBd_bounds l h
  unfold vBd at h
  simp only [Bool.and_eq_true] at h
  have := h.1.2
  rw [List.all_eq_true] at this
  have h5 := this _ (List.getElem_mem hk)
  simp only [Bool.and_eq_true] at h5
  have h6 := h5.2
  unfold cIn inB Pc.at_ at h6
  simp only [Bool.and_eq_true, decide_eq_true_eq] at h6
  omega
theorem sv_own {α : Type} {f : α → List Value} {w : World} {base : Nat} {e : TypeId} {size : Nat} {v : Value} {xs : List α} (h : w.ownsRow base e size v xs.length (flat f xs)) : SV f w v xs := by
  obtain ⟨a, cap, rfl, h1, -, -⟩ := own_at h
  exact ⟨a, cap, rfl, h1⟩
theorem run_place {w : World} {m : Nat} {ps : List Pc} {kv : List (Ce × Value)} (hm : MapAt w m kv) (hp : PlaceOk ps kv) (c : Ce) : (Instr.lookup 109 (.map (some m)) c.val true).run Try.prog w = .ok (.tuple #[.int .i64 (max (fnd c ps) 0), .bool (decide (0 ≤ fnd c ps))]) w := by
  obtain ⟨h, -⟩ := ceTy
  have h1 := run_lookup_ce h Try.underlying109 (.int .i64 0) (fun w => by kernel_rfl) hm c true
  have h2 : ((mfind c kv 0).map (·.2)) = if 0 ≤ fnd c ps then some (.int .i64 (fnd c ps)) else none := hp c
  rw [h1]
  cases hf : mfind c kv 0 with
  | none =>
    rw [hf] at h2
    by_cases g : 0 ≤ fnd c ps
    · rw [if_pos g] at h2; cases h2
    · have e : max (fnd c ps) 0 = 0 := by omega
      rw [decide_eq_false g, e]; rfl
  | some p =>
    rw [hf] at h2
    by_cases g : 0 ≤ fnd c ps
    · rw [if_pos g] at h2
      have e : max (fnd c ps) 0 = fnd c ps := by omega
      simp only [Option.map_some, Option.some.injEq] at h2
      rw [decide_eq_true g, e]
      simp [h2]
    · rw [if_neg g] at h2; cases h2
set_option maxHeartbeats 3200000 in
theorem stageOf_any (b0 : Nat) (l : Bd) (w : World) (hbp : BP w b0 l) (hv : vBd l = true) :
    Calls Try.prog 38 #[.pointer (some ⟨b0, 0, none⟩)] w fun e w' => ∃ g, e = .returned (.pointer (some ⟨g, 0, none⟩)) ∧ w.heap.size ≤ g ∧ StAt w' g l ∧ Below w.heap.size w w' := by
  have HBP := Lib.hid hbp
  obtain ⟨hbl, sv, hbd, sa, scap, rfl, hps⟩ := hbp
  unfold BdAt at hbd
  obtain ⟨c1, c2, c3, c4, c5⟩ := vBd_bounds l hv
  have hnd : (l.ps.map Pc.at_).Nodup := by
    unfold vBd at hv
    simp only [Bool.and_eq_true, decide_eq_true_eq] at hv
    exact hv.2
  have HND := Lib.hid hnd
  clear hnd
  obtain ⟨hcty, -⟩ := ceTy
  have hmm := @run_makeMap Try.prog
  go_enter Try.func38, Try.ntmps38
  go_wp2
  go_loopw [29] (fun i wr => ∃ k : Nat, ∃ kv : List (Ce × Value), k ≤ l.ps.length ∧ i = .int .i64 k ∧ Hid (PlaceOk (l.ps.take k) kv) ∧ MapAt wr (w.heap.size + 1) kv ∧ w.heap.size + 1 < wr.heap.size ∧ wr.ownsRow w.heap.size 108 4 (.slice (some ⟨w.heap.size, 0, none⟩) 1 1) 1 [.slice sa l.ps.length scap, .slice none 0 0, .slice none 0 0, .slice none 0 0] ∧ Below w.heap.size w wr) (fun i _ => l.ps.length - (intOf i).toNat)
  case atStart =>
    refine ⟨0, [], by omega, rfl, Lib.hid placeOk_nil, by have := map_new (w.alloc (.cells #[.slice sa l.ps.length scap, .slice none 0 0, .slice none 0 0, .slice none 0 0] 108)); simpa using this, by simp, ?_, (by repeat (first | with_reducible exact Below.refl _ _ | with_reducible assumption | with_reducible apply bl_drewN | with_reducible apply bl_drew | with_reducible apply bl_alloc | (with_reducible refine bl_set ?_ (by first | (simp; done) | (simp; omega)) _) | with_reducible refine bl_trans ?_ (by with_reducible assumption)))⟩
    exact own_below (own_newAt w #[.slice sa l.ps.length scap, .slice none 0 0, .slice none 0 0, .slice none 0 0] 108 4 w.heap.size w.heap.size rfl (Nat.le_refl _) rfl _ rfl) (bl_alloc (Below.refl _ _)) (Nat.le_refl _)
  case round =>
    clear hmm
    obtain ⟨k, kv, hk, rfl, hpl, hmap, hsz, hown, hb⟩ := hrel
    by_cases hlt : k < l.ps.length
    · obtain ⟨b', off, rfl, hbl', hat⟩ := pcs_get (hps.below hb (Nat.le_refl _)) hlt
      unfold PcAt at hat
      have hm0 := map_alloc hmap (.cells #[.int .i8 l.ps[k].x, .int .i8 l.ps[k].y, .int .i8 l.ps[k].k, .int .i8 l.ps[k].t, .int .i8 l.ps[k].d] 95)
      go_wp2_with (at_mapUpdate; refine wpList_update_ce _ rfl _ _ _ 109 rfl hcty Try.underlying109 _ _ rfl hm0 ⟨l.ps[k].x, l.ps[k].y⟩ (.int .i64 k) rfl rfl ?_; intro w5 hm5 hg5 hz5)
      simp at hz5
      have hown5 := own_kept (own_below hown (bl_alloc (o := .cells #[.int .i8 l.ps[k].x, .int .i8 l.ps[k].y, .int .i8 l.ps[k].k, .int .i8 l.ps[k].t, .int .i8 l.ps[k].d] 95) (Below.refl _ wr)) (Nat.le_refl _)) hg5 (by intro q hq e; have h9 : some w.heap.size = some q := hq; rw [← h9] at e; simp at e)
      have hb5 : Below w.heap.size w w5 := bl_grown (bl_alloc hb) hg5 (fun j hj => by cases hj; omega)
      refine ⟨⟨k + 1, _, by omega, by go_num, Lib.hid (placeOk_succ l.ps HND.out k hlt kv hpl.out), hm5, by omega, hown5, hb5⟩, by simp [intOf]; omega⟩
    · have hkn : k = l.ps.length := by omega
      subst hkn
      rw [List.take_length] at hpl
      obtain ⟨W0, hW0⟩ : ∃ W, W = wr := ⟨_, rfl⟩
      subst hW0
      obtain ⟨hc, hf⟩ := bcell hb
      go_wp2
      go_loopw [44] (fun i wr => ∃ k : Nat, ∃ v1 v2 v3 : Value, k ≤ l.ps.length ∧ i = .int .i64 k ∧ wr.ownsRow w.heap.size 108 4 (.slice (some ⟨w.heap.size, 0, none⟩) 1 1) 1 [.slice sa l.ps.length scap, v1, v2, v3] ∧ wr.ownsRow (w.heap.size + 2) 110 1 v1 k (flat canC (l.ps.take k)) ∧ wr.ownsRow (w.heap.size + 2) 111 4 v2 k (flat hitC (l.ps.take k)) ∧ wr.ownsRow (w.heap.size + 2) 112 4 v3 k (flat (besC l.ps) (l.ps.take k)) ∧
        MapAt wr (w.heap.size + 1) kv ∧ (∀ q, v1.ownBlock = some q → v2.ownBlock ≠ some q ∧ v3.ownBlock ≠ some q) ∧ (∀ q, v2.ownBlock = some q → v3.ownBlock ≠ some q) ∧ w.heap.size + 1 < wr.heap.size ∧ Below w.heap.size w wr) (fun i _ => l.ps.length - (intOf i).toNat)
      case atStart => exact ⟨0, .slice none 0 0, .slice none 0 0, .slice none 0 0, by omega, rfl, hown, World.ownsRow_nil _ _ _ _, World.ownsRow_nil _ _ _ _, World.ownsRow_nil _ _ _ _, hmap, (fun q hq => by cases hq), (fun q hq => by cases hq), hsz, hb⟩
      case round =>
        clear hmap hown hb hsz
        obtain ⟨k, v1, v2, v3, hk, rfl, hst, hr1, hr2, hr3, hmap, hd1, hd2, hsz, hb⟩ := hrel
        by_cases hlt : k < l.ps.length
        · obtain ⟨b', off, rfl, hbl', hat⟩ := pcs_get (hps.below hb (Nat.le_refl _)) hlt
          unfold PcAt at hat
          have hvk := vBd_piece2 l hv k hlt
          have hPc := vBd_cell l hv k hlt
          obtain ⟨k1, k2, k3, k4, k5, k6⟩ := hvk
          go_upto_region 11 with fail
          have hh := heap_alloc_new wr (.cells #[.int .i8 l.ps[k].x, .int .i8 l.ps[k].y, .int .i8 l.ps[k].k, .int .i8 l.ps[k].t, .int .i8 l.ps[k].d] 95)
          have hb9 : Below w.heap.size w (wr.alloc (.cells #[.int .i8 l.ps[k].x, .int .i8 l.ps[k].y, .int .i8 l.ps[k].k, .int .i8 l.ps[k].t, .int .i8 l.ps[k].d] 95)) := bl_alloc hb
          have hbo : Below wr.heap.size wr (wr.alloc (.cells #[.int .i8 l.ps[k].x, .int .i8 l.ps[k].y, .int .i8 l.ps[k].k, .int .i8 l.ps[k].t, .int .i8 l.ps[k].d] 95)) := bl_alloc (Below.refl _ _)
          have hst9 := own_below hst hbo (Nat.le_refl _)
          have hr19 := own_below hr1 hbo (Nat.le_refl _)
          have hr29 := own_below hr2 hbo (Nat.le_refl _)
          have hr39 := own_below hr3 hbo (Nat.le_refl _)
          have hm9 := map_alloc hmap (.cells #[.int .i8 l.ps[k].x, .int .i8 l.ps[k].y, .int .i8 l.ps[k].k, .int .i8 l.ps[k].t, .int .i8 l.ps[k].d] 95)
          have hz9 : (wr.alloc (.cells #[.int .i8 l.ps[k].x, .int .i8 l.ps[k].y, .int .i8 l.ps[k].k, .int .i8 l.ps[k].t, .int .i8 l.ps[k].d] 95)).heap.size = wr.heap.size + 1 := by simp
          have hl1 : ∀ q, v1.ownBlock = some q → q < wr.heap.size := fun q hq => (hr1.lt q hq).2
          have hl2 : ∀ q, v2.ownBlock = some q → q < wr.heap.size := fun q hq => (hr2.lt q hq).2
          have hl3 : ∀ q, v3.ownBlock = some q → q < wr.heap.size := fun q hq => (hr3.lt q hq).2
          obtain ⟨W9, hW9⟩ : ∃ W, W = wr.alloc (.cells #[.int .i8 l.ps[k].x, .int .i8 l.ps[k].y, .int .i8 l.ps[k].k, .int .i8 l.ps[k].t, .int .i8 l.ps[k].d] 95) := ⟨_, rfl⟩
          rw [← hW9] at hh hb9 hst9 hr19 hr29 hr39 hm9 hz9 ⊢
          obtain ⟨b8, hb8⟩ : ∃ b, b = wr.heap.size := ⟨_, rfl⟩
          rw [← hb8] at hh hz9 hl1 hl2 hl3 hsz ⊢
          clear hW9 hbo hst hr1 hr2 hr3 hmap hb hb8
          have y0 : W9.cell? ⟨b8, 0, none⟩ = some (.int .i8 l.ps[k].x) := by rw [cell_of_row _ _ _ _ _ _ hh]; rfl
          have y1 : W9.cell? ⟨b8, 1, none⟩ = some (.int .i8 l.ps[k].y) := by rw [cell_of_row _ _ _ _ _ _ hh]; rfl
          have y2 : W9.cell? ⟨b8, 2, none⟩ = some (.int .i8 l.ps[k].k) := by rw [cell_of_row _ _ _ _ _ _ hh]; rfl
          have y3 : W9.cell? ⟨b8, 3, none⟩ = some (.int .i8 l.ps[k].t) := by rw [cell_of_row _ _ _ _ _ _ hh]; rfl
          have y4 : W9.cell? ⟨b8, 4, none⟩ = some (.int .i8 l.ps[k].d) := by rw [cell_of_row _ _ _ _ _ _ hh]; rfl
          have o10 := own_below (own_newAt W9 #[.int .u8 0, .int .u8 0, .int .u8 0, .int .u8 0] 111 4 (b8 + 1) (b8 + 1) hz9.symm (Nat.le_refl _) rfl _ rfl) (bl_alloc (o := .cells #[.int .i64 0, .int .i64 0, .int .i64 0, .int .i64 0] 112) (Below.refl _ _)) (Nat.le_refl _)
          have o11 := own_newAt (W9.alloc (.cells #[.int .u8 0, .int .u8 0, .int .u8 0, .int .u8 0] 111)) #[.int .i64 0, .int .i64 0, .int .i64 0, .int .i64 0] 112 4 (b8 + 1) (b8 + 1 + 1) (by simp [hz9]) (by omega) rfl _ rfl
          have hbz : Below W9.heap.size W9 ((W9.alloc (.cells #[.int .u8 0, .int .u8 0, .int .u8 0, .int .u8 0] 111)).alloc (.cells #[.int .i64 0, .int .i64 0, .int .i64 0, .int .i64 0] 112)) := bl_alloc (bl_alloc (Below.refl _ _))
          clear hh
          have HST := Lib.hid hst9
          have HR1 := Lib.hid hr19
          have HR2 := Lib.hid hr29
          have HR3 := Lib.hid hr39
          have HM := Lib.hid hm9
          have HB9 := Lib.hid hb9
          have HD1 := Lib.hid hd1
          have HD2 := Lib.hid hd2
          clear hst9 hr19 hr29 hr39 hm9 hb9 hd1 hd2
          obtain ⟨P, hP⟩ : ∃ P, P = l.ps[k] := ⟨_, rfl⟩
          rw [← hP] at y0 y1 y2 y3 y4 k1 k2 k3 k4 k5 k6 hPc ⊢
          have hPok : (⟨P.x, P.y⟩ : Ce).ok := by constructor <;> constructor <;> simp only <;> omega
          have hzz : W9.heap.size = b8 + 1 := hz9
          have HP := Lib.hid hP
          clear hP
          have HPL := Lib.hid (show PlaceOk l.ps kv from hpl.out)
          go_wp2_with fail
          go_loopw [9, 50] (fun c s wx => ∃ m : Nat, m ≤ 4 ∧ s = .int .i64 m ∧ c = .int .u8 (canTo P m) ∧ wx.ownsRow (b8 + 1) 111 4 (.slice (some ⟨b8 + 1, 0, none⟩) 1 1) 1 (hitTo P m) ∧ wx.ownsRow (b8 + 1) 112 4 (.slice (some ⟨b8 + 1 + 1, 0, none⟩) 1 1) 1 (besTo l.ps P m) ∧ Below W9.heap.size W9 wx) (fun _ s _ => 4 - (intOf s).toNat)
          case atStart => exact ⟨0, by omega, rfl, rfl, o10, o11, hbz⟩
          case round =>
            clear o10 o11 hbz
            obtain ⟨m, hm, rfl, rfl, o10, o11, hbx⟩ := hrel
            obtain ⟨hcx, hfx⟩ := bcell hbx
            have hzx := hbx.size
            by_cases hlm : m < 4
            · have HF := Lib.hid (fun w' => falls_any P.x P.y P.k P.t P.d m k1 k2 k3 k4 (by omega) (by omega) w')
              go_wp2_with fail
              refine (HF.out _).mono ?_
              rintro e w1 ⟨rfl, hb1⟩
              have hbw1 := bl_trans hbx hb1
              have o10a := own_below o10 hb1 (Nat.le_refl _)
              have o11a := own_below o11 hb1 (Nat.le_refl _)
              have O10 := Lib.hid o10a
              have O11 := Lib.hid o11a
              have HBX := Lib.hid hbw1
              have HCS := Lib.hid (canTo_succ P m)
              obtain ⟨hvm, hhv⟩ : ∃ v, v = hv0 P m := ⟨_, rfl⟩
              rw [show max (hitsV P.k P.t (m : Int)) 0 = hv0 P m from rfl, ← hhv]
              have HHV := Lib.hid hhv
              have hz1 := hbw1.size
              clear o10 o11 hbx hb1 o10a o11a hbw1 hcx hfx hzx HF hhv
              rcases dec_cases (0 ≤ hitsV P.k P.t m) with ⟨g1, g1'⟩ | ⟨g1, g1'⟩
              · rw [g1]
                rw [if_pos g1'] at HCS
                clear g1'
                go_wp2_with fail
                refine (sides1_any _ m _ (by omega) (by omega)).mono ?_
                rintro e w2 ⟨rfl, rfl⟩
                have hb2 : Below w1.heap.size w1 (w1.alloc (.cells #[.int .i64 m] 3)) := bl_alloc (Below.refl _ _)
                have o10b := own_below O10.out hb2 (Nat.le_refl _)
                have o11b := own_below O11.out hb2 (Nat.le_refl _)
                have hbxb := bl_trans HBX.out hb2
                obtain ⟨X, hX⟩ : ∃ X, X = w1.alloc (.cells #[.int .i64 m] 3) := ⟨_, rfl⟩
                rw [← hX] at o10b o11b hbxb ⊢
                have O10b := Lib.hid o10b
                have O11b := Lib.hid o11b
                have HBXb := Lib.hid hbxb
                have hzX := hbxb.size
                clear hX hb2 o10b o11b hbxb
                obtain ⟨⟨v0, x0⟩, f0⟩ := own_cell O10b.out (j := m) (by omega)
                obtain ⟨⟨v4, x4⟩, f4⟩ := own_cell O11b.out (j := m) (by omega)
                go_upto_region 18 with fail
                have p10 := (O10b.out.stored m (.int .u8 hvm)).1
                have p10k := (O10b.out.stored m (.int .u8 hvm)).2
                have p11 := own_kept O11b.out p10k (by intro q hq e; have h9 : some (b8 + 1 + 1) = some q := hq; rw [← h9] at e; simp at e)
                have q11 := (p11.stored m (.int .i64 (-1))).1
                have q11k := (p11.stored m (.int .i64 (-1))).2
                have q10 := own_kept p10 q11k (by intro q hq e; have h9 : some (b8 + 1) = some q := hq; rw [← h9] at e; simp at e)
                have hb17 := bl_grown (bl_grown HBXb.out p10k (fun q hq => by cases hq; omega)) q11k (fun q hq => by cases hq; omega)
                clear p10 p10k p11 q11k x0 f0 x4 f4
                obtain ⟨W17, hW17⟩ : ∃ W, W = (X.setCell ⟨b8 + 1, m, none⟩ (.int .u8 hvm)).setCell ⟨b8 + 1 + 1, m, none⟩ (.int .i64 (-1)) := ⟨_, rfl⟩
                rw [← hW17] at q10 q11 hb17 ⊢
                clear hW17
                have Q10 := Lib.hid q10
                have Q11 := Lib.hid q11
                have HB17 := Lib.hid hb17
                obtain ⟨hc17, hf17⟩ := bcell hb17
                have hz17 := hb17.size
                clear q10 q11 hb17
                have HNX := Lib.hid (fun w' => next_any ⟨P.x, P.y⟩ hPok (m : Int) (by omega) (by omega) w')
                go_wp2_with fail
                refine (HNX.out _).mono ?_
                rintro e w3 ⟨rfl, hb3⟩
                have hb93 := bl_trans HB17.out hb3
                have Q10c := Lib.hid (own_below Q10.out hb3 (Nat.le_refl _))
                have Q11c := Lib.hid (own_below Q11.out hb3 (Nat.le_refl _))
                have HB93 := Lib.hid hb93
                have hz3 := hb93.size
                have hlk0 := run_place (map_below HM.out hb93 (by omega)) HPL.out (nxt ⟨P.x, P.y⟩ m)
                have hbv : besV l.ps P m = fnd (nxt ⟨P.x, P.y⟩ m) l.ps := rfl
                clear hb3 hb93 hc17 hf17
                obtain ⟨nx, hnx⟩ : ∃ nx, nx = nxt ⟨P.x, P.y⟩ m := ⟨_, rfl⟩
                rw [← hnx] at hlk0 hbv ⊢
                clear hnx
                rcases fnd_lo nx l.ps with gn | ⟨gn, gn2⟩
                · rw [gn] at hlk0 hbv
                  have hlk : (Instr.lookup 109 (.map (some (w.heap.size + 1))) (.agg #[.int .i8 nx.x, .int .i8 nx.y]) true).run Try.prog w3 = .ok (.tuple #[.int .i64 0, .bool false]) w3 := hlk0
                  have HBV := Lib.hid hbv
                  clear hlk0 hbv gn
                  go_wp2
                  go_roundw
                  case rel =>
                    refine ⟨m + 1, by omega, by go_num, by rw [HCS.out], ?_, ?_, HB93.out⟩
                    · rw [← hitTo_set P m hlm, ← HHV.out]; exact Q10c.out
                    · rw [← besTo_set l.ps P m hlm, HBV.out]; exact Q11c.out
                  case measure => simp [intOf]; omega
                · obtain ⟨fv, hfv⟩ : ∃ fv, fv = fnd nx l.ps := ⟨_, rfl⟩
                  rw [← hfv] at hlk0 hbv gn gn2
                  clear hfv
                  rw [decide_eq_true gn, show max fv 0 = fv by omega] at hlk0
                  have hlk : (Instr.lookup 109 (.map (some (w.heap.size + 1))) (.agg #[.int .i8 nx.x, .int .i8 nx.y]) true).run Try.prog w3 = .ok (.tuple #[.int .i64 fv, .bool true]) w3 := hlk0
                  have HBV := Lib.hid hbv
                  clear hlk0 hbv
                  obtain ⟨⟨v4, x4⟩, f4⟩ := own_cell Q11c.out (j := m) (by omega)
                  go_wp2
                  have r11 := (Q11c.out.stored m (.int .i64 fv)).1
                  have r11k := (Q11c.out.stored m (.int .i64 fv)).2
                  have r10 := own_kept Q10c.out r11k (by intro q hq e; have h9 : some (b8 + 1) = some q := hq; rw [← h9] at e; simp at e)
                  have hbe := bl_grown HB93.out r11k (fun q hq => by cases hq; omega)
                  clear x4 f4 r11k
                  go_roundw
                  case rel =>
                    refine ⟨m + 1, by omega, by go_num, by rw [HCS.out], ?_, ?_, hbe⟩
                    · rw [← hitTo_set P m hlm, ← HHV.out]; exact r10
                    · rw [← besTo_set l.ps P m hlm, HBV.out]; rw [List.set_set] at r11; exact r11
                  case measure => simp [intOf]; omega
              · rw [g1]
                rw [if_neg g1'] at HCS
                clear g1'
                obtain ⟨X, hX⟩ : ∃ X, X = w1 := ⟨_, rfl⟩
                rw [← hX] at O10 O11 HBX hz1 ⊢
                have O10b := Lib.hid O10.out
                have O11b := Lib.hid O11.out
                have HBXb := Lib.hid HBX.out
                have hzX := hz1
                clear hX
                obtain ⟨⟨v0, x0⟩, f0⟩ := own_cell O10b.out (j := m) (by omega)
                obtain ⟨⟨v4, x4⟩, f4⟩ := own_cell O11b.out (j := m) (by omega)
                go_upto_region 18 with fail
                have p10 := (O10b.out.stored m (.int .u8 hvm)).1
                have p10k := (O10b.out.stored m (.int .u8 hvm)).2
                have p11 := own_kept O11b.out p10k (by intro q hq e; have h9 : some (b8 + 1 + 1) = some q := hq; rw [← h9] at e; simp at e)
                have q11 := (p11.stored m (.int .i64 (-1))).1
                have q11k := (p11.stored m (.int .i64 (-1))).2
                have q10 := own_kept p10 q11k (by intro q hq e; have h9 : some (b8 + 1) = some q := hq; rw [← h9] at e; simp at e)
                have hb17 := bl_grown (bl_grown HBXb.out p10k (fun q hq => by cases hq; omega)) q11k (fun q hq => by cases hq; omega)
                clear p10 p10k p11 q11k x0 f0 x4 f4
                obtain ⟨W17, hW17⟩ : ∃ W, W = (X.setCell ⟨b8 + 1, m, none⟩ (.int .u8 hvm)).setCell ⟨b8 + 1 + 1, m, none⟩ (.int .i64 (-1)) := ⟨_, rfl⟩
                rw [← hW17] at q10 q11 hb17 ⊢
                clear hW17
                have Q10 := Lib.hid q10
                have Q11 := Lib.hid q11
                have HB17 := Lib.hid hb17
                obtain ⟨hc17, hf17⟩ := bcell hb17
                have hz17 := hb17.size
                clear q10 q11 hb17
                have HNX := Lib.hid (fun w' => next_any ⟨P.x, P.y⟩ hPok (m : Int) (by omega) (by omega) w')
                go_wp2_with fail
                refine (HNX.out _).mono ?_
                rintro e w3 ⟨rfl, hb3⟩
                have hb93 := bl_trans HB17.out hb3
                have Q10c := Lib.hid (own_below Q10.out hb3 (Nat.le_refl _))
                have Q11c := Lib.hid (own_below Q11.out hb3 (Nat.le_refl _))
                have HB93 := Lib.hid hb93
                have hz3 := hb93.size
                have hlk0 := run_place (map_below HM.out hb93 (by omega)) HPL.out (nxt ⟨P.x, P.y⟩ m)
                have hbv : besV l.ps P m = fnd (nxt ⟨P.x, P.y⟩ m) l.ps := rfl
                clear hb3 hb93 hc17 hf17
                obtain ⟨nx, hnx⟩ : ∃ nx, nx = nxt ⟨P.x, P.y⟩ m := ⟨_, rfl⟩
                rw [← hnx] at hlk0 hbv ⊢
                clear hnx
                rcases fnd_lo nx l.ps with gn | ⟨gn, gn2⟩
                · rw [gn] at hlk0 hbv
                  have hlk : (Instr.lookup 109 (.map (some (w.heap.size + 1))) (.agg #[.int .i8 nx.x, .int .i8 nx.y]) true).run Try.prog w3 = .ok (.tuple #[.int .i64 0, .bool false]) w3 := hlk0
                  have HBV := Lib.hid hbv
                  clear hlk0 hbv gn
                  go_wp2
                  go_roundw
                  case rel =>
                    refine ⟨m + 1, by omega, by go_num, by rw [HCS.out], ?_, ?_, HB93.out⟩
                    · rw [← hitTo_set P m hlm, ← HHV.out]; exact Q10c.out
                    · rw [← besTo_set l.ps P m hlm, HBV.out]; exact Q11c.out
                  case measure => simp [intOf]; omega
                · obtain ⟨fv, hfv⟩ : ∃ fv, fv = fnd nx l.ps := ⟨_, rfl⟩
                  rw [← hfv] at hlk0 hbv gn gn2
                  clear hfv
                  rw [decide_eq_true gn, show max fv 0 = fv by omega] at hlk0
                  have hlk : (Instr.lookup 109 (.map (some (w.heap.size + 1))) (.agg #[.int .i8 nx.x, .int .i8 nx.y]) true).run Try.prog w3 = .ok (.tuple #[.int .i64 fv, .bool true]) w3 := hlk0
                  have HBV := Lib.hid hbv
                  clear hlk0 hbv
                  obtain ⟨⟨v4, x4⟩, f4⟩ := own_cell Q11c.out (j := m) (by omega)
                  go_wp2
                  have r11 := (Q11c.out.stored m (.int .i64 fv)).1
                  have r11k := (Q11c.out.stored m (.int .i64 fv)).2
                  have r10 := own_kept Q10c.out r11k (by intro q hq e; have h9 : some (b8 + 1) = some q := hq; rw [← h9] at e; simp at e)
                  have hbe := bl_grown HB93.out r11k (fun q hq => by cases hq; omega)
                  clear x4 f4 r11k
                  go_roundw
                  case rel =>
                    refine ⟨m + 1, by omega, by go_num, by rw [HCS.out], ?_, ?_, hbe⟩
                    · rw [← hitTo_set P m hlm, ← HHV.out]; exact r10
                    · rw [← besTo_set l.ps P m hlm, HBV.out]; rw [List.set_set] at r11; exact r11
                  case measure => simp [intOf]; omega
            · have hm4 : m = 4 := by omega
              subst hm4
              rw [hitTo_all] at o10
              rw [besTo_all] at o11
              have st := own_below HST.out hbx (Nat.le_refl _)
              have r1 := own_below HR1.out hbx (Nat.le_refl _)
              have r2 := own_below HR2.out hbx (Nat.le_refl _)
              have r3 := own_below HR3.out hbx (Nat.le_refl _)
              have hbw := bl_trans HB9.out hbx
              obtain ⟨W22, hW22⟩ : ∃ W, W = wr := ⟨_, rfl⟩
              subst hW22
              obtain ⟨cv, hcv⟩ : ∃ cv, cv = canTo P 4 := ⟨_, rfl⟩
              rw [← hcv]
              have HCV := Lib.hid hcv
              clear hcv
              have HONE : Hid (∀ u ∈ (Array.toList #[Value.int .u8 cv]), u.oneCell' = true) := Lib.hid (by intro u hu; simp at hu; subst hu; rfl)
              obtain ⟨i1, hi1, hiz1, hix1, hiy1⟩ := info_parts Try.infoSides
              obtain ⟨i2, hi2, hiz2, hix2, hiy2⟩ := info_parts Try.info4Sides
              obtain ⟨i3, hi3, hiz3, hix3, hiy3⟩ := info_parts Try.info4Int
              have RR : R3 ⟨w, kv, .slice (some ⟨b', off, none⟩) l.ps.length scap, v1, v2, v3, b8, .int .u8 (hv0 P 0), .int .u8 (hv0 P 1), .int .u8 (hv0 P 2), .int .u8 (hv0 P 3), .int .i64 (besV l.ps P 0), .int .i64 (besV l.ps P 1), .int .i64 (besV l.ps P 2), .int .i64 (besV l.ps P 3)⟩ W22 [] v1 v2 v3 k k k (flat canC (l.ps.take k)) (flat hitC (l.ps.take k)) (flat (besC l.ps) (l.ps.take k)) :=
                ⟨st, r1, r2, r3, fun q hq => (HD1.out q hq).1, fun q hq => (HD1.out q hq).2, HD2.out, map_below HM.out hbx (show w.heap.size + 1 < W9.heap.size by omega), hbw, o10, o11, fun p hp => by cases hp⟩
              have RR := RR.step (bl_drew (Below.refl _ _))
              clear st r1 r2 r3 hbw o10 o11 hbx
              go_upto_region 22 with fail
              refine wp_region_T 3 24 (fun w' => w'.cell? ⟨w.heap.size, 1, none⟩ = some v1 ∧ w'.cell? ⟨w.heap.size, 2, none⟩ = some v2 ∧ w'.cell? ⟨w.heap.size, 3, none⟩ = some v3 ∧ w'.cell? ⟨b8 + 1, 0, none⟩ = some (.int .u8 (hv0 P 0)) ∧ w'.cell? ⟨b8 + 1, 1, none⟩ = some (.int .u8 (hv0 P 1)) ∧ w'.cell? ⟨b8 + 1, 2, none⟩ = some (.int .u8 (hv0 P 2)) ∧ w'.cell? ⟨b8 + 1, 3, none⟩ = some (.int .u8 (hv0 P 3)) ∧ w'.cell? ⟨b8 + 1 + 1, 0, none⟩ = some (.int .i64 (besV l.ps P 0)) ∧ w'.cell? ⟨b8 + 1 + 1, 1, none⟩ = some (.int .i64 (besV l.ps P 1)) ∧ w'.cell? ⟨b8 + 1 + 1, 2, none⟩ = some (.int .i64 (besV l.ps P 2)) ∧ w'.cell? ⟨b8 + 1 + 1, 3, none⟩ = some (.int .i64 (besV l.ps P 3))) (by kernel_rfl) RR.S (fun hHeld => ?_)
              obtain ⟨Y0, hY0⟩ : ∃ Y, Y = W22.drew := ⟨_, rfl⟩
              rw [← hY0] at RR hHeld ⊢
              clear hY0
              (refine' wpAnyT_takeP 0 (oi := ?oi16) (v := ?v16) ?hi16 (by decide) (by kernel_rfl) (by kernel_rfl) (by kernel_rfl) ?hQ16 ?hy16 ?rest16; (case hi16 => simp only [List.getElem?_toArray, List.getElem?_cons_zero, List.getElem?_cons_succ]; rfl); (case hQ16 => exact fun _ _ _ h => h); (case hy16 => refine Or.inl ⟨by rfl, ?_⟩; intro wz hSw; go_simp; try with_reducible rfl); try simp only [Act.put, List.setIfInBounds_toArray, List.set_cons_zero, List.set_cons_succ])
              (refine' wpAnyT_takeP 1 (oi := ?oi17) (v := ?v17) ?hi17 (by decide) (by kernel_rfl) (by kernel_rfl) (by kernel_rfl) ?hQ17 ?hy17 ?rest17; (case hi17 => simp only [List.getElem?_toArray, List.getElem?_cons_zero, List.getElem?_cons_succ]; rfl); (case hQ17 => exact fun _ _ _ h => h); (case hy17 => refine Or.inl ⟨by rfl, ?_⟩; intro wz hSw; go_simp; try with_reducible rfl); try simp only [Act.put, List.setIfInBounds_toArray, List.set_cons_zero, List.set_cons_succ])
              (refine' wpAnyT_takeP 2 (oi := ?oi18) (v := ?v18) ?hi18 (by decide) (by kernel_rfl) (by kernel_rfl) (by kernel_rfl) ?hQ18 ?hy18 ?rest18; (case hi18 => simp only [List.getElem?_toArray, List.getElem?_cons_zero, List.getElem?_cons_succ]; rfl); (case hQ18 => exact fun _ _ _ h => h); (case hy18 => refine Or.inl ⟨by rfl, ?_⟩; intro wz hSw; go_simp; try with_reducible rfl); try simp only [Act.put, List.setIfInBounds_toArray, List.set_cons_zero, List.set_cons_succ])
              (refine' wpAnyT_take 6 3 (oi := ?oi1) (v := ?v1) ?hi1 (by kernel_rfl) (by kernel_rfl) (by kernel_rfl) (by kernel_rfl) (by kernel_rfl) (by kernel_rfl) ?hQ1 ?hy1 (by assumption) ?rest1; (case hi1 => simp only [List.getElem?_toArray, List.getElem?_cons_zero, List.getElem?_cons_succ]; rfl); (case hQ1 => exact fun _ _ _ h => h); (case hy1 => refine Or.inl ⟨by rfl, ?_⟩; intro wz hSw; (try dsimp only at hSw); go_simp; try with_reducible rfl); try simp only [Act.put, List.setIfInBounds_toArray, List.set_cons_zero, List.set_cons_succ])
              (refine' wpAnyT_take 6 4 (oi := ?oi2) (v := ?v2) ?hi2 (by kernel_rfl) (by kernel_rfl) (by kernel_rfl) (by kernel_rfl) (by kernel_rfl) (by kernel_rfl) ?hQ2 ?hy2 (by assumption) ?rest2; (case hi2 => simp only [List.getElem?_toArray, List.getElem?_cons_zero, List.getElem?_cons_succ]; rfl); (case hQ2 => exact fun _ _ _ h => h); (case hy2 => refine Or.inl ⟨by rfl, ?_⟩; intro wz hSw; (try dsimp only at hSw); go_simp; try with_reducible rfl); try simp only [Act.put, List.setIfInBounds_toArray, List.set_cons_zero, List.set_cons_succ])
              (refine' wpAnyT_take 6 5 (oi := ?oi3) (v := ?v3) ?hi3 (by kernel_rfl) (by kernel_rfl) (by kernel_rfl) (by kernel_rfl) (by kernel_rfl) (by kernel_rfl) ?hQ3 ?hy3 (by assumption) ?rest3; (case hi3 => simp only [List.getElem?_toArray, List.getElem?_cons_zero, List.getElem?_cons_succ]; rfl); (case hQ3 => exact fun _ _ _ h => h); (case hy3 => refine Or.inl ⟨by rfl, ?_⟩; intro wz hSw; (try dsimp only at hSw); go_simp; try with_reducible rfl); try simp only [Act.put, List.setIfInBounds_toArray, List.set_cons_zero, List.set_cons_succ])
              (refine' wpAnyT_take 6 6 (oi := ?oi4) (v := ?v4) ?hi4 (by kernel_rfl) (by kernel_rfl) (by kernel_rfl) (by kernel_rfl) (by kernel_rfl) (by kernel_rfl) ?hQ4 ?hy4 (by assumption) ?rest4; (case hi4 => simp only [List.getElem?_toArray, List.getElem?_cons_zero, List.getElem?_cons_succ]; rfl); (case hQ4 => exact fun _ _ _ h => h); (case hy4 => refine Or.inl ⟨by rfl, ?_⟩; intro wz hSw; (try dsimp only at hSw); go_simp; try with_reducible rfl); try simp only [Act.put, List.setIfInBounds_toArray, List.set_cons_zero, List.set_cons_succ])
              (refine' wpAnyT_take 6 7 (oi := ?oi5) (v := ?v5) ?hi5 (by kernel_rfl) (by kernel_rfl) (by kernel_rfl) (by kernel_rfl) (by kernel_rfl) (by kernel_rfl) ?hQ5 ?hy5 (by assumption) ?rest5; (case hi5 => simp only [List.getElem?_toArray, List.getElem?_cons_zero, List.getElem?_cons_succ]; rfl); (case hQ5 => exact fun _ _ _ h => h); (case hy5 => refine Or.inl ⟨by rfl, ?_⟩; intro wz hSw; (try dsimp only at hSw); go_simp; try with_reducible rfl); try simp only [Act.put, List.setIfInBounds_toArray, List.set_cons_zero, List.set_cons_succ])
              (refine' wpAnyT_take 6 10 (oi := ?oi6) (v := ?v6) ?hi6 (by kernel_rfl) (by kernel_rfl) (by kernel_rfl) (by kernel_rfl) (by kernel_rfl) (by kernel_rfl) ?hQ6 ?hy6 (by assumption) ?rest6; (case hi6 => simp only [List.getElem?_toArray, List.getElem?_cons_zero, List.getElem?_cons_succ]; rfl); (case hQ6 => exact fun _ _ _ h => h); (case hy6 => refine Or.inl ⟨by rfl, ?_⟩; intro wz hSw; (try dsimp only at hSw); go_simp; try with_reducible rfl); try simp only [Act.put, List.setIfInBounds_toArray, List.set_cons_zero, List.set_cons_succ])
              (refine' wpAnyT_take 6 11 (oi := ?oi7) (v := ?v7) ?hi7 (by kernel_rfl) (by kernel_rfl) (by kernel_rfl) (by kernel_rfl) (by kernel_rfl) (by kernel_rfl) ?hQ7 ?hy7 (by assumption) ?rest7; (case hi7 => simp only [List.getElem?_toArray, List.getElem?_cons_zero, List.getElem?_cons_succ]; rfl); (case hQ7 => exact fun _ _ _ h => h); (case hy7 => refine Or.inl ⟨by rfl, ?_⟩; intro wz hSw; (try dsimp only at hSw); go_simp; try with_reducible rfl); try simp only [Act.put, List.setIfInBounds_toArray, List.set_cons_zero, List.set_cons_succ])
              (refine' wpAnyT_take 6 12 (oi := ?oi8) (v := ?v8) ?hi8 (by kernel_rfl) (by kernel_rfl) (by kernel_rfl) (by kernel_rfl) (by kernel_rfl) (by kernel_rfl) ?hQ8 ?hy8 (by assumption) ?rest8; (case hi8 => simp only [List.getElem?_toArray, List.getElem?_cons_zero, List.getElem?_cons_succ]; rfl); (case hQ8 => exact fun _ _ _ h => h); (case hy8 => refine Or.inl ⟨by rfl, ?_⟩; intro wz hSw; (try dsimp only at hSw); go_simp; try with_reducible rfl); try simp only [Act.put, List.setIfInBounds_toArray, List.set_cons_zero, List.set_cons_succ])
              (refine' wpAnyT_take 6 13 (oi := ?oi9) (v := ?v9) ?hi9 (by kernel_rfl) (by kernel_rfl) (by kernel_rfl) (by kernel_rfl) (by kernel_rfl) (by kernel_rfl) ?hQ9 ?hy9 (by assumption) ?rest9; (case hi9 => simp only [List.getElem?_toArray, List.getElem?_cons_zero, List.getElem?_cons_succ]; rfl); (case hQ9 => exact fun _ _ _ h => h); (case hy9 => refine Or.inl ⟨by rfl, ?_⟩; intro wz hSw; (try dsimp only at hSw); go_simp; try with_reducible rfl); try simp only [Act.put, List.setIfInBounds_toArray, List.set_cons_zero, List.set_cons_succ])
              (refine' wpAnyT_take 6 14 (oi := ?oi10) (v := ?v10) ?hi10 (by kernel_rfl) (by kernel_rfl) (by kernel_rfl) (by kernel_rfl) (by kernel_rfl) (by kernel_rfl) ?hQ10 ?hy10 (by assumption) ?rest10; (case hi10 => simp only [List.getElem?_toArray, List.getElem?_cons_zero, List.getElem?_cons_succ]; rfl); (case hQ10 => exact fun _ _ _ h => h); (case hy10 => refine Or.inl ⟨by rfl, ?_⟩; intro wz hSw; (try dsimp only at hSw); go_simp; try with_reducible rfl); try simp only [Act.put, List.setIfInBounds_toArray, List.set_cons_zero, List.set_cons_succ])
              (refine' wpAnyT_take 6 17 (oi := ?oi11) (v := ?v11) ?hi11 (by kernel_rfl) (by kernel_rfl) (by kernel_rfl) (by kernel_rfl) (by kernel_rfl) (by kernel_rfl) ?hQ11 ?hy11 (by assumption) ?rest11; (case hi11 => simp only [List.getElem?_toArray, List.getElem?_cons_zero, List.getElem?_cons_succ]; rfl); (case hQ11 => exact fun _ _ _ h => h); (case hy11 => refine Or.inl ⟨by rfl, ?_⟩; intro wz hSw; (try dsimp only at hSw); go_simp; try with_reducible rfl); try simp only [Act.put, List.setIfInBounds_toArray, List.set_cons_zero, List.set_cons_succ])
              (refine' wpAnyT_take 6 18 (oi := ?oi12) (v := ?v12) ?hi12 (by kernel_rfl) (by kernel_rfl) (by kernel_rfl) (by kernel_rfl) (by kernel_rfl) (by kernel_rfl) ?hQ12 ?hy12 (by assumption) ?rest12; (case hi12 => simp only [List.getElem?_toArray, List.getElem?_cons_zero, List.getElem?_cons_succ]; rfl); (case hQ12 => exact fun _ _ _ h => h); (case hy12 => refine Or.inl ⟨by rfl, ?_⟩; intro wz hSw; (try dsimp only at hSw); go_simp; try with_reducible rfl); try simp only [Act.put, List.setIfInBounds_toArray, List.set_cons_zero, List.set_cons_succ])
              (refine' wpAnyT_take 6 19 (oi := ?oi13) (v := ?v13) ?hi13 (by kernel_rfl) (by kernel_rfl) (by kernel_rfl) (by kernel_rfl) (by kernel_rfl) (by kernel_rfl) ?hQ13 ?hy13 (by assumption) ?rest13; (case hi13 => simp only [List.getElem?_toArray, List.getElem?_cons_zero, List.getElem?_cons_succ]; rfl); (case hQ13 => exact fun _ _ _ h => h); (case hy13 => refine Or.inl ⟨by rfl, ?_⟩; intro wz hSw; (try dsimp only at hSw); go_simp; try with_reducible rfl); try simp only [Act.put, List.setIfInBounds_toArray, List.set_cons_zero, List.set_cons_succ])
              (refine' wpAnyT_take 6 20 (oi := ?oi14) (v := ?v14) ?hi14 (by kernel_rfl) (by kernel_rfl) (by kernel_rfl) (by kernel_rfl) (by kernel_rfl) (by kernel_rfl) ?hQ14 ?hy14 (by assumption) ?rest14; (case hi14 => simp only [List.getElem?_toArray, List.getElem?_cons_zero, List.getElem?_cons_succ]; rfl); (case hQ14 => exact fun _ _ _ h => h); (case hy14 => refine Or.inl ⟨by rfl, ?_⟩; intro wz hSw; (try dsimp only at hSw); go_simp; try with_reducible rfl); try simp only [Act.put, List.setIfInBounds_toArray, List.set_cons_zero, List.set_cons_succ])
              (refine' wpAnyT_take 6 21 (oi := ?oi15) (v := ?v15) ?hi15 (by kernel_rfl) (by kernel_rfl) (by kernel_rfl) (by kernel_rfl) (by kernel_rfl) (by kernel_rfl) ?hQ15 ?hy15 (by assumption) ?rest15; (case hi15 => simp only [List.getElem?_toArray, List.getElem?_cons_zero, List.getElem?_cons_succ]; rfl); (case hQ15 => exact fun _ _ _ h => h); (case hy15 => refine Or.inl ⟨by rfl, ?_⟩; intro wz hSw; (try dsimp only at hSw); go_simp; try with_reducible rfl); try simp only [Act.put, List.setIfInBounds_toArray, List.set_cons_zero, List.set_cons_succ])
              clear hHeld
              refine tail_cut (fun L1 L2 L3 g1 cap1 g2 cap2 g3 cap3 Y => R3 ⟨w, kv, .slice (some ⟨b', off, none⟩) l.ps.length scap, v1, v2, v3, b8, .int .u8 (hv0 P 0), .int .u8 (hv0 P 1), .int .u8 (hv0 P 2), .int .u8 (hv0 P 3), .int .i64 (besV l.ps P 0), .int .i64 (besV l.ps P 1), .int .i64 (besV l.ps P 2), .int .i64 (besV l.ps P 3)⟩ Y [] (.slice (some ⟨g1, 0, none⟩) (k + 1) cap1) (.slice (some ⟨g2, 0, none⟩) (k + 1) cap2) (.slice (some ⟨g3, 0, none⟩) (k + 1) cap3) (k + 1) (k + 1) (k + 1) (flat canC (l.ps.take k) ++ Array.toList #[.int .u8 cv]) (flat hitC (l.ps.take k) ++ Array.toList #[.int .u8 (hv0 P 0), .int .u8 (hv0 P 1), .int .u8 (hv0 P 2), .int .u8 (hv0 P 3)]) (flat (besC l.ps) (l.ps.take k) ++ Array.toList #[.int .i64 (besV l.ps P 0), .int .i64 (besV l.ps P 1), .int .i64 (besV l.ps P 2), .int .i64 (besV l.ps P 3)])) (fun L1 L2 L3 g1 cap1 g2 cap2 g3 cap3 a => (((((a.put (some 92) (.slice (some ⟨L1, 0, none⟩) 1 1)).put (some 93) (.slice (some ⟨g1, 0, none⟩) (k + 1) cap1)).put (some 99) (.slice (some ⟨L2, 0, none⟩) 1 1)).put (some 100) (.slice (some ⟨g2, 0, none⟩) (k + 1) cap2)).put (some 106) (.slice (some ⟨L3, 0, none⟩) 1 1)).put (some 107) (.slice (some ⟨g3, 0, none⟩) (k + 1) cap3)) 9 (fun q => (((((q.setIfInBounds 8 true).setIfInBounds 9 true).setIfInBounds 15 true).setIfInBounds 16 true).setIfInBounds 22 true).setIfInBounds 23 true) ?tailQ (fun TAIL => ?mainQ)
              case mainQ =>
                simp only [Act.put, List.setIfInBounds_toArray, List.set_cons_zero, List.set_cons_succ] at TAIL
                refine wpAnyT_ready (rs := [8, 15, 22]) (by kernel_rfl) (by simp) ?_
                (refine' AllReadyT.cons (o := ?o19) ?ho19 (fun K hK => ?step19) ?more19; (case ho19 => simp only [List.getElem?_toArray, List.getElem?_cons_zero, List.getElem?_cons_succ]; rfl))
                · go_simp
                  have RR := RR.lit #[.int .u8 cv] 110
                  obtain ⟨Y1, hY⟩ : ∃ Y, Y = Y0.alloc (.cells #[.int .u8 cv] 110) := ⟨_, rfl⟩
                  rw [← hY] at RR ⊢
                  clear hY
                  obtain ⟨L1, hL⟩ : ∃ L, L = Y0.heap.size := ⟨_, rfl⟩
                  rw [← hL] at RR ⊢
                  clear hL
                  refine hK.out _ _ (fun _ _ => RR.S) (fun hHeld => ?_)
                  clear hK K
                  try simp only [Act.put, List.setIfInBounds_toArray, List.set_cons_zero, List.set_cons_succ]
                  refine wpAnyT_ready (rs := [9, 15, 22]) (by kernel_rfl) (by simp) ?_
                  (refine' AllReadyT.cons (o := ?o20) ?ho20 (fun K hK => ?step20) ?more20; (case ho20 => simp only [List.getElem?_toArray, List.getElem?_cons_zero, List.getElem?_cons_succ]; rfl))
                  · refine step_append_lies _ (by rfl) _ _ _ (by rfl) (w.heap.size + 2) 110 i1 _ 1 1 Try.underlying104 hi1 hiz1 hix1 hiy1 rfl (by omega) v1 k (flat canC (l.ps.take k)) (by rfl) RR.r1 ⟨L1, 0, none⟩ 1 1 (Array.toList #[.int .u8 cv]) (by rfl) (by rfl) (World.news_of_block (RR.lits (L1, #[.int .u8 cv], 110) (by simp)).2) HONE.out (by omega) (by unfold maxLen; omega) (by omega) (by have : b8 + 1 + 1 < Y1.heap.size := (RR.o11.lt _ rfl).2; omega) _ rfl ?_
                    intro g1 cap1 Y2 hown hgrow hat hlt1
                    have RR := RR.app1 hl1 hown hgrow hat
                    clear hown hgrow hat
                    refine hK.out _ _ (fun _ _ => RR.S) (fun hHeld => ?_)
                    clear hK K
                    try simp only [Act.put, List.setIfInBounds_toArray, List.set_cons_zero, List.set_cons_succ]
                    refine wpAnyT_ready (rs := [15, 22]) (by kernel_rfl) (by simp) ?_
                    (refine' AllReadyT.cons (o := ?o21) ?ho21 (fun K hK => ?step21) ?more21; (case ho21 => simp only [List.getElem?_toArray, List.getElem?_cons_zero, List.getElem?_cons_succ]; rfl))
                    · go_simp
                      have RR := RR.lit #[.int .u8 (hv0 P 0), .int .u8 (hv0 P 1), .int .u8 (hv0 P 2), .int .u8 (hv0 P 3)] 111
                      obtain ⟨Y3, hY⟩ : ∃ Y, Y = Y2.alloc (.cells #[.int .u8 (hv0 P 0), .int .u8 (hv0 P 1), .int .u8 (hv0 P 2), .int .u8 (hv0 P 3)] 111) := ⟨_, rfl⟩
                      rw [← hY] at RR ⊢
                      clear hY
                      obtain ⟨L2, hL⟩ : ∃ L, L = Y2.heap.size := ⟨_, rfl⟩
                      rw [← hL] at RR ⊢
                      clear hL
                      refine hK.out _ _ (fun _ _ => RR.S) (fun hHeld => ?_)
                      clear hK K
                      try simp only [Act.put, List.setIfInBounds_toArray, List.set_cons_zero, List.set_cons_succ]
                      refine wpAnyT_ready (rs := [16, 22]) (by kernel_rfl) (by simp) ?_
                      (refine' AllReadyT.cons (o := ?o22) ?ho22 (fun K hK => ?step22) ?more22; (case ho22 => simp only [List.getElem?_toArray, List.getElem?_cons_zero, List.getElem?_cons_succ]; rfl))
                      · refine step_append_lies _ (by rfl) _ _ _ (by rfl) (w.heap.size + 2) 111 i2 _ 4 4 Try.underlying105 hi2 hiz2 hix2 hiy2 rfl (by omega) v2 k (flat hitC (l.ps.take k)) (by rfl) RR.r2 ⟨L2, 0, none⟩ 1 1 (Array.toList #[.int .u8 (hv0 P 0), .int .u8 (hv0 P 1), .int .u8 (hv0 P 2), .int .u8 (hv0 P 3)]) (by rfl) (by rfl) (World.news_of_block (RR.lits (L2, #[.int .u8 (hv0 P 0), .int .u8 (hv0 P 1), .int .u8 (hv0 P 2), .int .u8 (hv0 P 3)], 111) (by simp)).2) (hitC_one P) (by omega) (by unfold maxLen; omega) (by omega) (by have : b8 + 1 + 1 < Y3.heap.size := (RR.o11.lt _ rfl).2; omega) _ rfl ?_
                        intro g2 cap2 Y4 hown hgrow hat hlt2
                        have RR := RR.app2 hl2 hown hgrow hat
                        clear hown hgrow hat
                        refine hK.out _ _ (fun _ _ => RR.S) (fun hHeld => ?_)
                        clear hK K
                        try simp only [Act.put, List.setIfInBounds_toArray, List.set_cons_zero, List.set_cons_succ]
                        refine wpAnyT_ready (rs := [22]) (by kernel_rfl) (by simp) ?_
                        (refine' AllReadyT.cons (o := ?o33) ?ho33 (fun K hK => ?step33) AllReadyT.nil; (case ho33 => simp only [List.getElem?_toArray, List.getElem?_cons_zero, List.getElem?_cons_succ]; rfl))
                        go_simp
                        have RR := RR.lit #[.int .i64 (besV l.ps P 0), .int .i64 (besV l.ps P 1), .int .i64 (besV l.ps P 2), .int .i64 (besV l.ps P 3)] 112
                        obtain ⟨Y5, hY⟩ : ∃ Y, Y = Y4.alloc (.cells #[.int .i64 (besV l.ps P 0), .int .i64 (besV l.ps P 1), .int .i64 (besV l.ps P 2), .int .i64 (besV l.ps P 3)] 112) := ⟨_, rfl⟩
                        rw [← hY] at RR ⊢
                        clear hY
                        obtain ⟨L3, hL⟩ : ∃ L, L = Y4.heap.size := ⟨_, rfl⟩
                        rw [← hL] at RR ⊢
                        clear hL
                        refine hK.out _ _ (fun _ _ => RR.S) (fun hHeld => ?_)
                        clear hK K
                        try simp only [Act.put, List.setIfInBounds_toArray, List.set_cons_zero, List.set_cons_succ]
                        refine wpAnyT_ready (rs := [23]) (by kernel_rfl) (by simp) ?_
                        (refine' AllReadyT.cons (o := ?o34) ?ho34 (fun K hK => ?step34) AllReadyT.nil; (case ho34 => simp only [List.getElem?_toArray, List.getElem?_cons_zero, List.getElem?_cons_succ]; rfl))
                        refine step_append_lies _ (by rfl) _ _ _ (by rfl) (w.heap.size + 2) 112 i3 _ 4 32 Try.underlying106 hi3 hiz3 hix3 hiy3 rfl (by omega) v3 k (flat (besC l.ps) (l.ps.take k)) (by rfl) RR.r3 ⟨L3, 0, none⟩ 1 1 (Array.toList #[.int .i64 (besV l.ps P 0), .int .i64 (besV l.ps P 1), .int .i64 (besV l.ps P 2), .int .i64 (besV l.ps P 3)]) (by rfl) (by rfl) (World.news_of_block (RR.lits (L3, #[.int .i64 (besV l.ps P 0), .int .i64 (besV l.ps P 1), .int .i64 (besV l.ps P 2), .int .i64 (besV l.ps P 3)], 112) (by simp)).2) (besC_one l.ps P) (by omega) (by unfold maxLen; omega) (by omega) (by have : b8 + 1 + 1 < Y5.heap.size := (RR.o11.lt _ rfl).2; omega) _ rfl ?_
                        intro g3 cap3 Y6 hown hgrow hat hlt3
                        have RR := RR.app3 hl3 hown hgrow hat
                        clear hown hgrow hat
                        refine hK.out _ _ (fun _ _ => RR.S) (fun hHeld => ?_)
                        clear hK K
                        try simp only [Act.put, List.setIfInBounds_toArray, List.set_cons_zero, List.set_cons_succ]
                        exact TAIL L1 L2 L3 g1 cap1 g2 cap2 g3 cap3 Y6 RR.forget
                      (refine' AllReadyT.cons (o := ?o35) ?ho35 (fun K hK => ?step35) AllReadyT.nil; (case ho35 => simp only [List.getElem?_toArray, List.getElem?_cons_zero, List.getElem?_cons_succ]; rfl))
                      go_simp
                      have RR := RR.lit #[.int .i64 (besV l.ps P 0), .int .i64 (besV l.ps P 1), .int .i64 (besV l.ps P 2), .int .i64 (besV l.ps P 3)] 112
                      obtain ⟨Y4, hY⟩ : ∃ Y, Y = Y3.alloc (.cells #[.int .i64 (besV l.ps P 0), .int .i64 (besV l.ps P 1), .int .i64 (besV l.ps P 2), .int .i64 (besV l.ps P 3)] 112) := ⟨_, rfl⟩
                      rw [← hY] at RR ⊢
                      clear hY
                      obtain ⟨L3, hL⟩ : ∃ L, L = Y3.heap.size := ⟨_, rfl⟩
                      rw [← hL] at RR ⊢
                      clear hL
                      refine hK.out _ _ (fun _ _ => RR.S) (fun hHeld => ?_)
                      clear hK K
                      try simp only [Act.put, List.setIfInBounds_toArray, List.set_cons_zero, List.set_cons_succ]
                      refine wpAnyT_ready (rs := [16]) (by kernel_rfl) (by simp) ?_
                      (refine' AllReadyT.cons (o := ?o36) ?ho36 (fun K hK => ?step36) AllReadyT.nil; (case ho36 => simp only [List.getElem?_toArray, List.getElem?_cons_zero, List.getElem?_cons_succ]; rfl))
                      refine step_append_lies _ (by rfl) _ _ _ (by rfl) (w.heap.size + 2) 111 i2 _ 4 4 Try.underlying105 hi2 hiz2 hix2 hiy2 rfl (by omega) v2 k (flat hitC (l.ps.take k)) (by rfl) RR.r2 ⟨L2, 0, none⟩ 1 1 (Array.toList #[.int .u8 (hv0 P 0), .int .u8 (hv0 P 1), .int .u8 (hv0 P 2), .int .u8 (hv0 P 3)]) (by rfl) (by rfl) (World.news_of_block (RR.lits (L2, #[.int .u8 (hv0 P 0), .int .u8 (hv0 P 1), .int .u8 (hv0 P 2), .int .u8 (hv0 P 3)], 111) (by simp)).2) (hitC_one P) (by omega) (by unfold maxLen; omega) (by omega) (by have : b8 + 1 + 1 < Y4.heap.size := (RR.o11.lt _ rfl).2; omega) _ rfl ?_
                      intro g2 cap2 Y5 hown hgrow hat hlt2
                      have RR := RR.app2 hl2 hown hgrow hat
                      clear hown hgrow hat
                      refine hK.out _ _ (fun _ _ => RR.S) (fun hHeld => ?_)
                      clear hK K
                      try simp only [Act.put, List.setIfInBounds_toArray, List.set_cons_zero, List.set_cons_succ]
                      refine wpAnyT_ready (rs := [23]) (by kernel_rfl) (by simp) ?_
                      (refine' AllReadyT.cons (o := ?o37) ?ho37 (fun K hK => ?step37) AllReadyT.nil; (case ho37 => simp only [List.getElem?_toArray, List.getElem?_cons_zero, List.getElem?_cons_succ]; rfl))
                      refine step_append_lies _ (by rfl) _ _ _ (by rfl) (w.heap.size + 2) 112 i3 _ 4 32 Try.underlying106 hi3 hiz3 hix3 hiy3 rfl (by omega) v3 k (flat (besC l.ps) (l.ps.take k)) (by rfl) RR.r3 ⟨L3, 0, none⟩ 1 1 (Array.toList #[.int .i64 (besV l.ps P 0), .int .i64 (besV l.ps P 1), .int .i64 (besV l.ps P 2), .int .i64 (besV l.ps P 3)]) (by rfl) (by rfl) (World.news_of_block (RR.lits (L3, #[.int .i64 (besV l.ps P 0), .int .i64 (besV l.ps P 1), .int .i64 (besV l.ps P 2), .int .i64 (besV l.ps P 3)], 112) (by simp)).2) (besC_one l.ps P) (by omega) (by unfold maxLen; omega) (by omega) (by have : b8 + 1 + 1 < Y5.heap.size := (RR.o11.lt _ rfl).2; omega) _ rfl ?_
                      intro g3 cap3 Y6 hown hgrow hat hlt3
                      have RR := RR.app3 hl3 hown hgrow hat
                      clear hown hgrow hat
                      refine hK.out _ _ (fun _ _ => RR.S) (fun hHeld => ?_)
                      clear hK K
                      try simp only [Act.put, List.setIfInBounds_toArray, List.set_cons_zero, List.set_cons_succ]
                      exact TAIL L1 L2 L3 g1 cap1 g2 cap2 g3 cap3 Y6 RR.forget
                    (refine' AllReadyT.cons (o := ?o38) ?ho38 (fun K hK => ?step38) AllReadyT.nil; (case ho38 => simp only [List.getElem?_toArray, List.getElem?_cons_zero, List.getElem?_cons_succ]; rfl))
                    go_simp
                    have RR := RR.lit #[.int .i64 (besV l.ps P 0), .int .i64 (besV l.ps P 1), .int .i64 (besV l.ps P 2), .int .i64 (besV l.ps P 3)] 112
                    obtain ⟨Y3, hY⟩ : ∃ Y, Y = Y2.alloc (.cells #[.int .i64 (besV l.ps P 0), .int .i64 (besV l.ps P 1), .int .i64 (besV l.ps P 2), .int .i64 (besV l.ps P 3)] 112) := ⟨_, rfl⟩
                    rw [← hY] at RR ⊢
                    clear hY
                    obtain ⟨L3, hL⟩ : ∃ L, L = Y2.heap.size := ⟨_, rfl⟩
                    rw [← hL] at RR ⊢
                    clear hL
                    refine hK.out _ _ (fun _ _ => RR.S) (fun hHeld => ?_)
                    clear hK K
                    try simp only [Act.put, List.setIfInBounds_toArray, List.set_cons_zero, List.set_cons_succ]
                    refine wpAnyT_ready (rs := [15]) (by kernel_rfl) (by simp) ?_
                    (refine' AllReadyT.cons (o := ?o39) ?ho39 (fun K hK => ?step39) AllReadyT.nil; (case ho39 => simp only [List.getElem?_toArray, List.getElem?_cons_zero, List.getElem?_cons_succ]; rfl))
                    go_simp
                    have RR := RR.lit #[.int .u8 (hv0 P 0), .int .u8 (hv0 P 1), .int .u8 (hv0 P 2), .int .u8 (hv0 P 3)] 111
                    obtain ⟨Y4, hY⟩ : ∃ Y, Y = Y3.alloc (.cells #[.int .u8 (hv0 P 0), .int .u8 (hv0 P 1), .int .u8 (hv0 P 2), .int .u8 (hv0 P 3)] 111) := ⟨_, rfl⟩
                    rw [← hY] at RR ⊢
                    clear hY
                    obtain ⟨L2, hL⟩ : ∃ L, L = Y3.heap.size := ⟨_, rfl⟩
                    rw [← hL] at RR ⊢
                    clear hL
                    refine hK.out _ _ (fun _ _ => RR.S) (fun hHeld => ?_)
                    clear hK K
                    try simp only [Act.put, List.setIfInBounds_toArray, List.set_cons_zero, List.set_cons_succ]
                    refine wpAnyT_ready (rs := [16]) (by kernel_rfl) (by simp) ?_
                    (refine' AllReadyT.cons (o := ?o40) ?ho40 (fun K hK => ?step40) AllReadyT.nil; (case ho40 => simp only [List.getElem?_toArray, List.getElem?_cons_zero, List.getElem?_cons_succ]; rfl))
                    refine step_append_lies _ (by rfl) _ _ _ (by rfl) (w.heap.size + 2) 111 i2 _ 4 4 Try.underlying105 hi2 hiz2 hix2 hiy2 rfl (by omega) v2 k (flat hitC (l.ps.take k)) (by rfl) RR.r2 ⟨L2, 0, none⟩ 1 1 (Array.toList #[.int .u8 (hv0 P 0), .int .u8 (hv0 P 1), .int .u8 (hv0 P 2), .int .u8 (hv0 P 3)]) (by rfl) (by rfl) (World.news_of_block (RR.lits (L2, #[.int .u8 (hv0 P 0), .int .u8 (hv0 P 1), .int .u8 (hv0 P 2), .int .u8 (hv0 P 3)], 111) (by simp)).2) (hitC_one P) (by omega) (by unfold maxLen; omega) (by omega) (by have : b8 + 1 + 1 < Y4.heap.size := (RR.o11.lt _ rfl).2; omega) _ rfl ?_
                    intro g2 cap2 Y5 hown hgrow hat hlt2
                    have RR := RR.app2 hl2 hown hgrow hat
                    clear hown hgrow hat
                    refine hK.out _ _ (fun _ _ => RR.S) (fun hHeld => ?_)
                    clear hK K
                    try simp only [Act.put, List.setIfInBounds_toArray, List.set_cons_zero, List.set_cons_succ]
                    refine wpAnyT_ready (rs := [23]) (by kernel_rfl) (by simp) ?_
                    (refine' AllReadyT.cons (o := ?o41) ?ho41 (fun K hK => ?step41) AllReadyT.nil; (case ho41 => simp only [List.getElem?_toArray, List.getElem?_cons_zero, List.getElem?_cons_succ]; rfl))
                    refine step_append_lies _ (by rfl) _ _ _ (by rfl) (w.heap.size + 2) 112 i3 _ 4 32 Try.underlying106 hi3 hiz3 hix3 hiy3 rfl (by omega) v3 k (flat (besC l.ps) (l.ps.take k)) (by rfl) RR.r3 ⟨L3, 0, none⟩ 1 1 (Array.toList #[.int .i64 (besV l.ps P 0), .int .i64 (besV l.ps P 1), .int .i64 (besV l.ps P 2), .int .i64 (besV l.ps P 3)]) (by rfl) (by rfl) (World.news_of_block (RR.lits (L3, #[.int .i64 (besV l.ps P 0), .int .i64 (besV l.ps P 1), .int .i64 (besV l.ps P 2), .int .i64 (besV l.ps P 3)], 112) (by simp)).2) (besC_one l.ps P) (by omega) (by unfold maxLen; omega) (by omega) (by have : b8 + 1 + 1 < Y5.heap.size := (RR.o11.lt _ rfl).2; omega) _ rfl ?_
                    intro g3 cap3 Y6 hown hgrow hat hlt3
                    have RR := RR.app3 hl3 hown hgrow hat
                    clear hown hgrow hat
                    refine hK.out _ _ (fun _ _ => RR.S) (fun hHeld => ?_)
                    clear hK K
                    try simp only [Act.put, List.setIfInBounds_toArray, List.set_cons_zero, List.set_cons_succ]
                    exact TAIL L1 L2 L3 g1 cap1 g2 cap2 g3 cap3 Y6 RR.forget
                  (refine' AllReadyT.cons (o := ?o23) ?ho23 (fun K hK => ?step23) ?more23; (case ho23 => simp only [List.getElem?_toArray, List.getElem?_cons_zero, List.getElem?_cons_succ]; rfl))
                  · go_simp
                    have RR := RR.lit #[.int .u8 (hv0 P 0), .int .u8 (hv0 P 1), .int .u8 (hv0 P 2), .int .u8 (hv0 P 3)] 111
                    obtain ⟨Y2, hY⟩ : ∃ Y, Y = Y1.alloc (.cells #[.int .u8 (hv0 P 0), .int .u8 (hv0 P 1), .int .u8 (hv0 P 2), .int .u8 (hv0 P 3)] 111) := ⟨_, rfl⟩
                    rw [← hY] at RR ⊢
                    clear hY
                    obtain ⟨L2, hL⟩ : ∃ L, L = Y1.heap.size := ⟨_, rfl⟩
                    rw [← hL] at RR ⊢
                    clear hL
                    refine hK.out _ _ (fun _ _ => RR.S) (fun hHeld => ?_)
                    clear hK K
                    try simp only [Act.put, List.setIfInBounds_toArray, List.set_cons_zero, List.set_cons_succ]
                    refine wpAnyT_ready (rs := [9, 22]) (by kernel_rfl) (by simp) ?_
                    (refine' AllReadyT.cons (o := ?o24) ?ho24 (fun K hK => ?step24) ?more24; (case ho24 => simp only [List.getElem?_toArray, List.getElem?_cons_zero, List.getElem?_cons_succ]; rfl))
                    · refine step_append_lies _ (by rfl) _ _ _ (by rfl) (w.heap.size + 2) 110 i1 _ 1 1 Try.underlying104 hi1 hiz1 hix1 hiy1 rfl (by omega) v1 k (flat canC (l.ps.take k)) (by rfl) RR.r1 ⟨L1, 0, none⟩ 1 1 (Array.toList #[.int .u8 cv]) (by rfl) (by rfl) (World.news_of_block (RR.lits (L1, #[.int .u8 cv], 110) (by simp)).2) HONE.out (by omega) (by unfold maxLen; omega) (by omega) (by have : b8 + 1 + 1 < Y2.heap.size := (RR.o11.lt _ rfl).2; omega) _ rfl ?_
                      intro g1 cap1 Y3 hown hgrow hat hlt1
                      have RR := RR.app1 hl1 hown hgrow hat
                      clear hown hgrow hat
                      refine hK.out _ _ (fun _ _ => RR.S) (fun hHeld => ?_)
                      clear hK K
                      try simp only [Act.put, List.setIfInBounds_toArray, List.set_cons_zero, List.set_cons_succ]
                      refine wpAnyT_ready (rs := [16, 22]) (by kernel_rfl) (by simp) ?_
                      (refine' AllReadyT.cons (o := ?o25) ?ho25 (fun K hK => ?step25) ?more25; (case ho25 => simp only [List.getElem?_toArray, List.getElem?_cons_zero, List.getElem?_cons_succ]; rfl))
                      · refine step_append_lies _ (by rfl) _ _ _ (by rfl) (w.heap.size + 2) 111 i2 _ 4 4 Try.underlying105 hi2 hiz2 hix2 hiy2 rfl (by omega) v2 k (flat hitC (l.ps.take k)) (by rfl) RR.r2 ⟨L2, 0, none⟩ 1 1 (Array.toList #[.int .u8 (hv0 P 0), .int .u8 (hv0 P 1), .int .u8 (hv0 P 2), .int .u8 (hv0 P 3)]) (by rfl) (by rfl) (World.news_of_block (RR.lits (L2, #[.int .u8 (hv0 P 0), .int .u8 (hv0 P 1), .int .u8 (hv0 P 2), .int .u8 (hv0 P 3)], 111) (by simp)).2) (hitC_one P) (by omega) (by unfold maxLen; omega) (by omega) (by have : b8 + 1 + 1 < Y3.heap.size := (RR.o11.lt _ rfl).2; omega) _ rfl ?_
                        intro g2 cap2 Y4 hown hgrow hat hlt2
                        have RR := RR.app2 hl2 hown hgrow hat
                        clear hown hgrow hat
                        refine hK.out _ _ (fun _ _ => RR.S) (fun hHeld => ?_)
                        clear hK K
                        try simp only [Act.put, List.setIfInBounds_toArray, List.set_cons_zero, List.set_cons_succ]
                        refine wpAnyT_ready (rs := [22]) (by kernel_rfl) (by simp) ?_
                        (refine' AllReadyT.cons (o := ?o42) ?ho42 (fun K hK => ?step42) AllReadyT.nil; (case ho42 => simp only [List.getElem?_toArray, List.getElem?_cons_zero, List.getElem?_cons_succ]; rfl))
                        go_simp
                        have RR := RR.lit #[.int .i64 (besV l.ps P 0), .int .i64 (besV l.ps P 1), .int .i64 (besV l.ps P 2), .int .i64 (besV l.ps P 3)] 112
                        obtain ⟨Y5, hY⟩ : ∃ Y, Y = Y4.alloc (.cells #[.int .i64 (besV l.ps P 0), .int .i64 (besV l.ps P 1), .int .i64 (besV l.ps P 2), .int .i64 (besV l.ps P 3)] 112) := ⟨_, rfl⟩
                        rw [← hY] at RR ⊢
                        clear hY
                        obtain ⟨L3, hL⟩ : ∃ L, L = Y4.heap.size := ⟨_, rfl⟩
                        rw [← hL] at RR ⊢
                        clear hL
                        refine hK.out _ _ (fun _ _ => RR.S) (fun hHeld => ?_)
                        clear hK K
                        try simp only [Act.put, List.setIfInBounds_toArray, List.set_cons_zero, List.set_cons_succ]
                        refine wpAnyT_ready (rs := [23]) (by kernel_rfl) (by simp) ?_
                        (refine' AllReadyT.cons (o := ?o43) ?ho43 (fun K hK => ?step43) AllReadyT.nil; (case ho43 => simp only [List.getElem?_toArray, List.getElem?_cons_zero, List.getElem?_cons_succ]; rfl))
                        refine step_append_lies _ (by rfl) _ _ _ (by rfl) (w.heap.size + 2) 112 i3 _ 4 32 Try.underlying106 hi3 hiz3 hix3 hiy3 rfl (by omega) v3 k (flat (besC l.ps) (l.ps.take k)) (by rfl) RR.r3 ⟨L3, 0, none⟩ 1 1 (Array.toList #[.int .i64 (besV l.ps P 0), .int .i64 (besV l.ps P 1), .int .i64 (besV l.ps P 2), .int .i64 (besV l.ps P 3)]) (by rfl) (by rfl) (World.news_of_block (RR.lits (L3, #[.int .i64 (besV l.ps P 0), .int .i64 (besV l.ps P 1), .int .i64 (besV l.ps P 2), .int .i64 (besV l.ps P 3)], 112) (by simp)).2) (besC_one l.ps P) (by omega) (by unfold maxLen; omega) (by omega) (by have : b8 + 1 + 1 < Y5.heap.size := (RR.o11.lt _ rfl).2; omega) _ rfl ?_
                        intro g3 cap3 Y6 hown hgrow hat hlt3
                        have RR := RR.app3 hl3 hown hgrow hat
                        clear hown hgrow hat
                        refine hK.out _ _ (fun _ _ => RR.S) (fun hHeld => ?_)
                        clear hK K
                        try simp only [Act.put, List.setIfInBounds_toArray, List.set_cons_zero, List.set_cons_succ]
                        exact TAIL L1 L2 L3 g1 cap1 g2 cap2 g3 cap3 Y6 RR.forget
                      (refine' AllReadyT.cons (o := ?o44) ?ho44 (fun K hK => ?step44) AllReadyT.nil; (case ho44 => simp only [List.getElem?_toArray, List.getElem?_cons_zero, List.getElem?_cons_succ]; rfl))
                      go_simp
                      have RR := RR.lit #[.int .i64 (besV l.ps P 0), .int .i64 (besV l.ps P 1), .int .i64 (besV l.ps P 2), .int .i64 (besV l.ps P 3)] 112
                      obtain ⟨Y4, hY⟩ : ∃ Y, Y = Y3.alloc (.cells #[.int .i64 (besV l.ps P 0), .int .i64 (besV l.ps P 1), .int .i64 (besV l.ps P 2), .int .i64 (besV l.ps P 3)] 112) := ⟨_, rfl⟩
                      rw [← hY] at RR ⊢
                      clear hY
                      obtain ⟨L3, hL⟩ : ∃ L, L = Y3.heap.size := ⟨_, rfl⟩
                      rw [← hL] at RR ⊢
                      clear hL
                      refine hK.out _ _ (fun _ _ => RR.S) (fun hHeld => ?_)
                      clear hK K
                      try simp only [Act.put, List.setIfInBounds_toArray, List.set_cons_zero, List.set_cons_succ]
                      refine wpAnyT_ready (rs := [16]) (by kernel_rfl) (by simp) ?_
                      (refine' AllReadyT.cons (o := ?o45) ?ho45 (fun K hK => ?step45) AllReadyT.nil; (case ho45 => simp only [List.getElem?_toArray, List.getElem?_cons_zero, List.getElem?_cons_succ]; rfl))
                      refine step_append_lies _ (by rfl) _ _ _ (by rfl) (w.heap.size + 2) 111 i2 _ 4 4 Try.underlying105 hi2 hiz2 hix2 hiy2 rfl (by omega) v2 k (flat hitC (l.ps.take k)) (by rfl) RR.r2 ⟨L2, 0, none⟩ 1 1 (Array.toList #[.int .u8 (hv0 P 0), .int .u8 (hv0 P 1), .int .u8 (hv0 P 2), .int .u8 (hv0 P 3)]) (by rfl) (by rfl) (World.news_of_block (RR.lits (L2, #[.int .u8 (hv0 P 0), .int .u8 (hv0 P 1), .int .u8 (hv0 P 2), .int .u8 (hv0 P 3)], 111) (by simp)).2) (hitC_one P) (by omega) (by unfold maxLen; omega) (by omega) (by have : b8 + 1 + 1 < Y4.heap.size := (RR.o11.lt _ rfl).2; omega) _ rfl ?_
                      intro g2 cap2 Y5 hown hgrow hat hlt2
                      have RR := RR.app2 hl2 hown hgrow hat
                      clear hown hgrow hat
                      refine hK.out _ _ (fun _ _ => RR.S) (fun hHeld => ?_)
                      clear hK K
                      try simp only [Act.put, List.setIfInBounds_toArray, List.set_cons_zero, List.set_cons_succ]
                      refine wpAnyT_ready (rs := [23]) (by kernel_rfl) (by simp) ?_
                      (refine' AllReadyT.cons (o := ?o46) ?ho46 (fun K hK => ?step46) AllReadyT.nil; (case ho46 => simp only [List.getElem?_toArray, List.getElem?_cons_zero, List.getElem?_cons_succ]; rfl))
                      refine step_append_lies _ (by rfl) _ _ _ (by rfl) (w.heap.size + 2) 112 i3 _ 4 32 Try.underlying106 hi3 hiz3 hix3 hiy3 rfl (by omega) v3 k (flat (besC l.ps) (l.ps.take k)) (by rfl) RR.r3 ⟨L3, 0, none⟩ 1 1 (Array.toList #[.int .i64 (besV l.ps P 0), .int .i64 (besV l.ps P 1), .int .i64 (besV l.ps P 2), .int .i64 (besV l.ps P 3)]) (by rfl) (by rfl) (World.news_of_block (RR.lits (L3, #[.int .i64 (besV l.ps P 0), .int .i64 (besV l.ps P 1), .int .i64 (besV l.ps P 2), .int .i64 (besV l.ps P 3)], 112) (by simp)).2) (besC_one l.ps P) (by omega) (by unfold maxLen; omega) (by omega) (by have : b8 + 1 + 1 < Y5.heap.size := (RR.o11.lt _ rfl).2; omega) _ rfl ?_
                      intro g3 cap3 Y6 hown hgrow hat hlt3
                      have RR := RR.app3 hl3 hown hgrow hat
                      clear hown hgrow hat
                      refine hK.out _ _ (fun _ _ => RR.S) (fun hHeld => ?_)
                      clear hK K
                      try simp only [Act.put, List.setIfInBounds_toArray, List.set_cons_zero, List.set_cons_succ]
                      exact TAIL L1 L2 L3 g1 cap1 g2 cap2 g3 cap3 Y6 RR.forget
                    (refine' AllReadyT.cons (o := ?o47) ?ho47 (fun K hK => ?step47) AllReadyT.nil; (case ho47 => simp only [List.getElem?_toArray, List.getElem?_cons_zero, List.getElem?_cons_succ]; rfl))
                    go_simp
                    have RR := RR.lit #[.int .i64 (besV l.ps P 0), .int .i64 (besV l.ps P 1), .int .i64 (besV l.ps P 2), .int .i64 (besV l.ps P 3)] 112
                    obtain ⟨Y3, hY⟩ : ∃ Y, Y = Y2.alloc (.cells #[.int .i64 (besV l.ps P 0), .int .i64 (besV l.ps P 1), .int .i64 (besV l.ps P 2), .int .i64 (besV l.ps P 3)] 112) := ⟨_, rfl⟩
                    rw [← hY] at RR ⊢
                    clear hY
                    obtain ⟨L3, hL⟩ : ∃ L, L = Y2.heap.size := ⟨_, rfl⟩
                    rw [← hL] at RR ⊢
                    clear hL
                    refine hK.out _ _ (fun _ _ => RR.S) (fun hHeld => ?_)
                    clear hK K
                    try simp only [Act.put, List.setIfInBounds_toArray, List.set_cons_zero, List.set_cons_succ]
                    refine wpAnyT_ready (rs := [9]) (by kernel_rfl) (by simp) ?_
                    (refine' AllReadyT.cons (o := ?o48) ?ho48 (fun K hK => ?step48) AllReadyT.nil; (case ho48 => simp only [List.getElem?_toArray, List.getElem?_cons_zero, List.getElem?_cons_succ]; rfl))
                    refine step_append_lies _ (by rfl) _ _ _ (by rfl) (w.heap.size + 2) 110 i1 _ 1 1 Try.underlying104 hi1 hiz1 hix1 hiy1 rfl (by omega) v1 k (flat canC (l.ps.take k)) (by rfl) RR.r1 ⟨L1, 0, none⟩ 1 1 (Array.toList #[.int .u8 cv]) (by rfl) (by rfl) (World.news_of_block (RR.lits (L1, #[.int .u8 cv], 110) (by simp)).2) HONE.out (by omega) (by unfold maxLen; omega) (by omega) (by have : b8 + 1 + 1 < Y3.heap.size := (RR.o11.lt _ rfl).2; omega) _ rfl ?_
                    intro g1 cap1 Y4 hown hgrow hat hlt1
                    have RR := RR.app1 hl1 hown hgrow hat
                    clear hown hgrow hat
                    refine hK.out _ _ (fun _ _ => RR.S) (fun hHeld => ?_)
                    clear hK K
                    try simp only [Act.put, List.setIfInBounds_toArray, List.set_cons_zero, List.set_cons_succ]
                    refine wpAnyT_ready (rs := [16]) (by kernel_rfl) (by simp) ?_
                    (refine' AllReadyT.cons (o := ?o49) ?ho49 (fun K hK => ?step49) AllReadyT.nil; (case ho49 => simp only [List.getElem?_toArray, List.getElem?_cons_zero, List.getElem?_cons_succ]; rfl))
                    refine step_append_lies _ (by rfl) _ _ _ (by rfl) (w.heap.size + 2) 111 i2 _ 4 4 Try.underlying105 hi2 hiz2 hix2 hiy2 rfl (by omega) v2 k (flat hitC (l.ps.take k)) (by rfl) RR.r2 ⟨L2, 0, none⟩ 1 1 (Array.toList #[.int .u8 (hv0 P 0), .int .u8 (hv0 P 1), .int .u8 (hv0 P 2), .int .u8 (hv0 P 3)]) (by rfl) (by rfl) (World.news_of_block (RR.lits (L2, #[.int .u8 (hv0 P 0), .int .u8 (hv0 P 1), .int .u8 (hv0 P 2), .int .u8 (hv0 P 3)], 111) (by simp)).2) (hitC_one P) (by omega) (by unfold maxLen; omega) (by omega) (by have : b8 + 1 + 1 < Y4.heap.size := (RR.o11.lt _ rfl).2; omega) _ rfl ?_
                    intro g2 cap2 Y5 hown hgrow hat hlt2
                    have RR := RR.app2 hl2 hown hgrow hat
                    clear hown hgrow hat
                    refine hK.out _ _ (fun _ _ => RR.S) (fun hHeld => ?_)
                    clear hK K
                    try simp only [Act.put, List.setIfInBounds_toArray, List.set_cons_zero, List.set_cons_succ]
                    refine wpAnyT_ready (rs := [23]) (by kernel_rfl) (by simp) ?_
                    (refine' AllReadyT.cons (o := ?o50) ?ho50 (fun K hK => ?step50) AllReadyT.nil; (case ho50 => simp only [List.getElem?_toArray, List.getElem?_cons_zero, List.getElem?_cons_succ]; rfl))
                    refine step_append_lies _ (by rfl) _ _ _ (by rfl) (w.heap.size + 2) 112 i3 _ 4 32 Try.underlying106 hi3 hiz3 hix3 hiy3 rfl (by omega) v3 k (flat (besC l.ps) (l.ps.take k)) (by rfl) RR.r3 ⟨L3, 0, none⟩ 1 1 (Array.toList #[.int .i64 (besV l.ps P 0), .int .i64 (besV l.ps P 1), .int .i64 (besV l.ps P 2), .int .i64 (besV l.ps P 3)]) (by rfl) (by rfl) (World.news_of_block (RR.lits (L3, #[.int .i64 (besV l.ps P 0), .int .i64 (besV l.ps P 1), .int .i64 (besV l.ps P 2), .int .i64 (besV l.ps P 3)], 112) (by simp)).2) (besC_one l.ps P) (by omega) (by unfold maxLen; omega) (by omega) (by have : b8 + 1 + 1 < Y5.heap.size := (RR.o11.lt _ rfl).2; omega) _ rfl ?_
                    intro g3 cap3 Y6 hown hgrow hat hlt3
                    have RR := RR.app3 hl3 hown hgrow hat
                    clear hown hgrow hat
                    refine hK.out _ _ (fun _ _ => RR.S) (fun hHeld => ?_)
                    clear hK K
                    try simp only [Act.put, List.setIfInBounds_toArray, List.set_cons_zero, List.set_cons_succ]
                    exact TAIL L1 L2 L3 g1 cap1 g2 cap2 g3 cap3 Y6 RR.forget
                  (refine' AllReadyT.cons (o := ?o51) ?ho51 (fun K hK => ?step51) AllReadyT.nil; (case ho51 => simp only [List.getElem?_toArray, List.getElem?_cons_zero, List.getElem?_cons_succ]; rfl))
                  go_simp
                  have RR := RR.lit #[.int .i64 (besV l.ps P 0), .int .i64 (besV l.ps P 1), .int .i64 (besV l.ps P 2), .int .i64 (besV l.ps P 3)] 112
                  obtain ⟨Y2, hY⟩ : ∃ Y, Y = Y1.alloc (.cells #[.int .i64 (besV l.ps P 0), .int .i64 (besV l.ps P 1), .int .i64 (besV l.ps P 2), .int .i64 (besV l.ps P 3)] 112) := ⟨_, rfl⟩
                  rw [← hY] at RR ⊢
                  clear hY
                  obtain ⟨L3, hL⟩ : ∃ L, L = Y1.heap.size := ⟨_, rfl⟩
                  rw [← hL] at RR ⊢
                  clear hL
                  refine hK.out _ _ (fun _ _ => RR.S) (fun hHeld => ?_)
                  clear hK K
                  try simp only [Act.put, List.setIfInBounds_toArray, List.set_cons_zero, List.set_cons_succ]
                  refine wpAnyT_ready (rs := [9, 15]) (by kernel_rfl) (by simp) ?_
                  (refine' AllReadyT.cons (o := ?o26) ?ho26 (fun K hK => ?step26) ?more26; (case ho26 => simp only [List.getElem?_toArray, List.getElem?_cons_zero, List.getElem?_cons_succ]; rfl))
                  · refine step_append_lies _ (by rfl) _ _ _ (by rfl) (w.heap.size + 2) 110 i1 _ 1 1 Try.underlying104 hi1 hiz1 hix1 hiy1 rfl (by omega) v1 k (flat canC (l.ps.take k)) (by rfl) RR.r1 ⟨L1, 0, none⟩ 1 1 (Array.toList #[.int .u8 cv]) (by rfl) (by rfl) (World.news_of_block (RR.lits (L1, #[.int .u8 cv], 110) (by simp)).2) HONE.out (by omega) (by unfold maxLen; omega) (by omega) (by have : b8 + 1 + 1 < Y2.heap.size := (RR.o11.lt _ rfl).2; omega) _ rfl ?_
                    intro g1 cap1 Y3 hown hgrow hat hlt1
                    have RR := RR.app1 hl1 hown hgrow hat
                    clear hown hgrow hat
                    refine hK.out _ _ (fun _ _ => RR.S) (fun hHeld => ?_)
                    clear hK K
                    try simp only [Act.put, List.setIfInBounds_toArray, List.set_cons_zero, List.set_cons_succ]
                    refine wpAnyT_ready (rs := [15]) (by kernel_rfl) (by simp) ?_
                    (refine' AllReadyT.cons (o := ?o52) ?ho52 (fun K hK => ?step52) AllReadyT.nil; (case ho52 => simp only [List.getElem?_toArray, List.getElem?_cons_zero, List.getElem?_cons_succ]; rfl))
                    go_simp
                    have RR := RR.lit #[.int .u8 (hv0 P 0), .int .u8 (hv0 P 1), .int .u8 (hv0 P 2), .int .u8 (hv0 P 3)] 111
                    obtain ⟨Y4, hY⟩ : ∃ Y, Y = Y3.alloc (.cells #[.int .u8 (hv0 P 0), .int .u8 (hv0 P 1), .int .u8 (hv0 P 2), .int .u8 (hv0 P 3)] 111) := ⟨_, rfl⟩
                    rw [← hY] at RR ⊢
                    clear hY
                    obtain ⟨L2, hL⟩ : ∃ L, L = Y3.heap.size := ⟨_, rfl⟩
                    rw [← hL] at RR ⊢
                    clear hL
                    refine hK.out _ _ (fun _ _ => RR.S) (fun hHeld => ?_)
                    clear hK K
                    try simp only [Act.put, List.setIfInBounds_toArray, List.set_cons_zero, List.set_cons_succ]
                    refine wpAnyT_ready (rs := [16]) (by kernel_rfl) (by simp) ?_
                    (refine' AllReadyT.cons (o := ?o53) ?ho53 (fun K hK => ?step53) AllReadyT.nil; (case ho53 => simp only [List.getElem?_toArray, List.getElem?_cons_zero, List.getElem?_cons_succ]; rfl))
                    refine step_append_lies _ (by rfl) _ _ _ (by rfl) (w.heap.size + 2) 111 i2 _ 4 4 Try.underlying105 hi2 hiz2 hix2 hiy2 rfl (by omega) v2 k (flat hitC (l.ps.take k)) (by rfl) RR.r2 ⟨L2, 0, none⟩ 1 1 (Array.toList #[.int .u8 (hv0 P 0), .int .u8 (hv0 P 1), .int .u8 (hv0 P 2), .int .u8 (hv0 P 3)]) (by rfl) (by rfl) (World.news_of_block (RR.lits (L2, #[.int .u8 (hv0 P 0), .int .u8 (hv0 P 1), .int .u8 (hv0 P 2), .int .u8 (hv0 P 3)], 111) (by simp)).2) (hitC_one P) (by omega) (by unfold maxLen; omega) (by omega) (by have : b8 + 1 + 1 < Y4.heap.size := (RR.o11.lt _ rfl).2; omega) _ rfl ?_
                    intro g2 cap2 Y5 hown hgrow hat hlt2
                    have RR := RR.app2 hl2 hown hgrow hat
                    clear hown hgrow hat
                    refine hK.out _ _ (fun _ _ => RR.S) (fun hHeld => ?_)
                    clear hK K
                    try simp only [Act.put, List.setIfInBounds_toArray, List.set_cons_zero, List.set_cons_succ]
                    refine wpAnyT_ready (rs := [23]) (by kernel_rfl) (by simp) ?_
                    (refine' AllReadyT.cons (o := ?o54) ?ho54 (fun K hK => ?step54) AllReadyT.nil; (case ho54 => simp only [List.getElem?_toArray, List.getElem?_cons_zero, List.getElem?_cons_succ]; rfl))
                    refine step_append_lies _ (by rfl) _ _ _ (by rfl) (w.heap.size + 2) 112 i3 _ 4 32 Try.underlying106 hi3 hiz3 hix3 hiy3 rfl (by omega) v3 k (flat (besC l.ps) (l.ps.take k)) (by rfl) RR.r3 ⟨L3, 0, none⟩ 1 1 (Array.toList #[.int .i64 (besV l.ps P 0), .int .i64 (besV l.ps P 1), .int .i64 (besV l.ps P 2), .int .i64 (besV l.ps P 3)]) (by rfl) (by rfl) (World.news_of_block (RR.lits (L3, #[.int .i64 (besV l.ps P 0), .int .i64 (besV l.ps P 1), .int .i64 (besV l.ps P 2), .int .i64 (besV l.ps P 3)], 112) (by simp)).2) (besC_one l.ps P) (by omega) (by unfold maxLen; omega) (by omega) (by have : b8 + 1 + 1 < Y5.heap.size := (RR.o11.lt _ rfl).2; omega) _ rfl ?_
                    intro g3 cap3 Y6 hown hgrow hat hlt3
                    have RR := RR.app3 hl3 hown hgrow hat
                    clear hown hgrow hat
                    refine hK.out _ _ (fun _ _ => RR.S) (fun hHeld => ?_)
                    clear hK K
                    try simp only [Act.put, List.setIfInBounds_toArray, List.set_cons_zero, List.set_cons_succ]
                    exact TAIL L1 L2 L3 g1 cap1 g2 cap2 g3 cap3 Y6 RR.forget
                  (refine' AllReadyT.cons (o := ?o55) ?ho55 (fun K hK => ?step55) AllReadyT.nil; (case ho55 => simp only [List.getElem?_toArray, List.getElem?_cons_zero, List.getElem?_cons_succ]; rfl))
                  go_simp
                  have RR := RR.lit #[.int .u8 (hv0 P 0), .int .u8 (hv0 P 1), .int .u8 (hv0 P 2), .int .u8 (hv0 P 3)] 111
                  obtain ⟨Y3, hY⟩ : ∃ Y, Y = Y2.alloc (.cells #[.int .u8 (hv0 P 0), .int .u8 (hv0 P 1), .int .u8 (hv0 P 2), .int .u8 (hv0 P 3)] 111) := ⟨_, rfl⟩
                  rw [← hY] at RR ⊢
                  clear hY
                  obtain ⟨L2, hL⟩ : ∃ L, L = Y2.heap.size := ⟨_, rfl⟩
                  rw [← hL] at RR ⊢
                  clear hL
                  refine hK.out _ _ (fun _ _ => RR.S) (fun hHeld => ?_)
                  clear hK K
                  try simp only [Act.put, List.setIfInBounds_toArray, List.set_cons_zero, List.set_cons_succ]
                  refine wpAnyT_ready (rs := [9]) (by kernel_rfl) (by simp) ?_
                  (refine' AllReadyT.cons (o := ?o56) ?ho56 (fun K hK => ?step56) AllReadyT.nil; (case ho56 => simp only [List.getElem?_toArray, List.getElem?_cons_zero, List.getElem?_cons_succ]; rfl))
                  refine step_append_lies _ (by rfl) _ _ _ (by rfl) (w.heap.size + 2) 110 i1 _ 1 1 Try.underlying104 hi1 hiz1 hix1 hiy1 rfl (by omega) v1 k (flat canC (l.ps.take k)) (by rfl) RR.r1 ⟨L1, 0, none⟩ 1 1 (Array.toList #[.int .u8 cv]) (by rfl) (by rfl) (World.news_of_block (RR.lits (L1, #[.int .u8 cv], 110) (by simp)).2) HONE.out (by omega) (by unfold maxLen; omega) (by omega) (by have : b8 + 1 + 1 < Y3.heap.size := (RR.o11.lt _ rfl).2; omega) _ rfl ?_
                  intro g1 cap1 Y4 hown hgrow hat hlt1
                  have RR := RR.app1 hl1 hown hgrow hat
                  clear hown hgrow hat
                  refine hK.out _ _ (fun _ _ => RR.S) (fun hHeld => ?_)
                  clear hK K
                  try simp only [Act.put, List.setIfInBounds_toArray, List.set_cons_zero, List.set_cons_succ]
                  refine wpAnyT_ready (rs := [16]) (by kernel_rfl) (by simp) ?_
                  (refine' AllReadyT.cons (o := ?o57) ?ho57 (fun K hK => ?step57) AllReadyT.nil; (case ho57 => simp only [List.getElem?_toArray, List.getElem?_cons_zero, List.getElem?_cons_succ]; rfl))
                  refine step_append_lies _ (by rfl) _ _ _ (by rfl) (w.heap.size + 2) 111 i2 _ 4 4 Try.underlying105 hi2 hiz2 hix2 hiy2 rfl (by omega) v2 k (flat hitC (l.ps.take k)) (by rfl) RR.r2 ⟨L2, 0, none⟩ 1 1 (Array.toList #[.int .u8 (hv0 P 0), .int .u8 (hv0 P 1), .int .u8 (hv0 P 2), .int .u8 (hv0 P 3)]) (by rfl) (by rfl) (World.news_of_block (RR.lits (L2, #[.int .u8 (hv0 P 0), .int .u8 (hv0 P 1), .int .u8 (hv0 P 2), .int .u8 (hv0 P 3)], 111) (by simp)).2) (hitC_one P) (by omega) (by unfold maxLen; omega) (by omega) (by have : b8 + 1 + 1 < Y4.heap.size := (RR.o11.lt _ rfl).2; omega) _ rfl ?_
                  intro g2 cap2 Y5 hown hgrow hat hlt2
                  have RR := RR.app2 hl2 hown hgrow hat
                  clear hown hgrow hat
                  refine hK.out _ _ (fun _ _ => RR.S) (fun hHeld => ?_)
                  clear hK K
                  try simp only [Act.put, List.setIfInBounds_toArray, List.set_cons_zero, List.set_cons_succ]
                  refine wpAnyT_ready (rs := [23]) (by kernel_rfl) (by simp) ?_
                  (refine' AllReadyT.cons (o := ?o58) ?ho58 (fun K hK => ?step58) AllReadyT.nil; (case ho58 => simp only [List.getElem?_toArray, List.getElem?_cons_zero, List.getElem?_cons_succ]; rfl))
                  refine step_append_lies _ (by rfl) _ _ _ (by rfl) (w.heap.size + 2) 112 i3 _ 4 32 Try.underlying106 hi3 hiz3 hix3 hiy3 rfl (by omega) v3 k (flat (besC l.ps) (l.ps.take k)) (by rfl) RR.r3 ⟨L3, 0, none⟩ 1 1 (Array.toList #[.int .i64 (besV l.ps P 0), .int .i64 (besV l.ps P 1), .int .i64 (besV l.ps P 2), .int .i64 (besV l.ps P 3)]) (by rfl) (by rfl) (World.news_of_block (RR.lits (L3, #[.int .i64 (besV l.ps P 0), .int .i64 (besV l.ps P 1), .int .i64 (besV l.ps P 2), .int .i64 (besV l.ps P 3)], 112) (by simp)).2) (besC_one l.ps P) (by omega) (by unfold maxLen; omega) (by omega) (by have : b8 + 1 + 1 < Y5.heap.size := (RR.o11.lt _ rfl).2; omega) _ rfl ?_
                  intro g3 cap3 Y6 hown hgrow hat hlt3
                  have RR := RR.app3 hl3 hown hgrow hat
                  clear hown hgrow hat
                  refine hK.out _ _ (fun _ _ => RR.S) (fun hHeld => ?_)
                  clear hK K
                  try simp only [Act.put, List.setIfInBounds_toArray, List.set_cons_zero, List.set_cons_succ]
                  exact TAIL L1 L2 L3 g1 cap1 g2 cap2 g3 cap3 Y6 RR.forget
                (refine' AllReadyT.cons (o := ?o27) ?ho27 (fun K hK => ?step27) ?more27; (case ho27 => simp only [List.getElem?_toArray, List.getElem?_cons_zero, List.getElem?_cons_succ]; rfl))
                · go_simp
                  have RR := RR.lit #[.int .u8 (hv0 P 0), .int .u8 (hv0 P 1), .int .u8 (hv0 P 2), .int .u8 (hv0 P 3)] 111
                  obtain ⟨Y1, hY⟩ : ∃ Y, Y = Y0.alloc (.cells #[.int .u8 (hv0 P 0), .int .u8 (hv0 P 1), .int .u8 (hv0 P 2), .int .u8 (hv0 P 3)] 111) := ⟨_, rfl⟩
                  rw [← hY] at RR ⊢
                  clear hY
                  obtain ⟨L2, hL⟩ : ∃ L, L = Y0.heap.size := ⟨_, rfl⟩
                  rw [← hL] at RR ⊢
                  clear hL
                  refine hK.out _ _ (fun _ _ => RR.S) (fun hHeld => ?_)
                  clear hK K
                  try simp only [Act.put, List.setIfInBounds_toArray, List.set_cons_zero, List.set_cons_succ]
                  refine wpAnyT_ready (rs := [8, 22]) (by kernel_rfl) (by simp) ?_
                  (refine' AllReadyT.cons (o := ?o28) ?ho28 (fun K hK => ?step28) ?more28; (case ho28 => simp only [List.getElem?_toArray, List.getElem?_cons_zero, List.getElem?_cons_succ]; rfl))
                  · go_simp
                    have RR := RR.lit #[.int .u8 cv] 110
                    obtain ⟨Y2, hY⟩ : ∃ Y, Y = Y1.alloc (.cells #[.int .u8 cv] 110) := ⟨_, rfl⟩
                    rw [← hY] at RR ⊢
                    clear hY
                    obtain ⟨L1, hL⟩ : ∃ L, L = Y1.heap.size := ⟨_, rfl⟩
                    rw [← hL] at RR ⊢
                    clear hL
                    refine hK.out _ _ (fun _ _ => RR.S) (fun hHeld => ?_)
                    clear hK K
                    try simp only [Act.put, List.setIfInBounds_toArray, List.set_cons_zero, List.set_cons_succ]
                    refine wpAnyT_ready (rs := [9, 22]) (by kernel_rfl) (by simp) ?_
                    (refine' AllReadyT.cons (o := ?o29) ?ho29 (fun K hK => ?step29) ?more29; (case ho29 => simp only [List.getElem?_toArray, List.getElem?_cons_zero, List.getElem?_cons_succ]; rfl))
                    · refine step_append_lies _ (by rfl) _ _ _ (by rfl) (w.heap.size + 2) 110 i1 _ 1 1 Try.underlying104 hi1 hiz1 hix1 hiy1 rfl (by omega) v1 k (flat canC (l.ps.take k)) (by rfl) RR.r1 ⟨L1, 0, none⟩ 1 1 (Array.toList #[.int .u8 cv]) (by rfl) (by rfl) (World.news_of_block (RR.lits (L1, #[.int .u8 cv], 110) (by simp)).2) HONE.out (by omega) (by unfold maxLen; omega) (by omega) (by have : b8 + 1 + 1 < Y2.heap.size := (RR.o11.lt _ rfl).2; omega) _ rfl ?_
                      intro g1 cap1 Y3 hown hgrow hat hlt1
                      have RR := RR.app1 hl1 hown hgrow hat
                      clear hown hgrow hat
                      refine hK.out _ _ (fun _ _ => RR.S) (fun hHeld => ?_)
                      clear hK K
                      try simp only [Act.put, List.setIfInBounds_toArray, List.set_cons_zero, List.set_cons_succ]
                      refine wpAnyT_ready (rs := [16, 22]) (by kernel_rfl) (by simp) ?_
                      (refine' AllReadyT.cons (o := ?o30) ?ho30 (fun K hK => ?step30) ?more30; (case ho30 => simp only [List.getElem?_toArray, List.getElem?_cons_zero, List.getElem?_cons_succ]; rfl))
                      · refine step_append_lies _ (by rfl) _ _ _ (by rfl) (w.heap.size + 2) 111 i2 _ 4 4 Try.underlying105 hi2 hiz2 hix2 hiy2 rfl (by omega) v2 k (flat hitC (l.ps.take k)) (by rfl) RR.r2 ⟨L2, 0, none⟩ 1 1 (Array.toList #[.int .u8 (hv0 P 0), .int .u8 (hv0 P 1), .int .u8 (hv0 P 2), .int .u8 (hv0 P 3)]) (by rfl) (by rfl) (World.news_of_block (RR.lits (L2, #[.int .u8 (hv0 P 0), .int .u8 (hv0 P 1), .int .u8 (hv0 P 2), .int .u8 (hv0 P 3)], 111) (by simp)).2) (hitC_one P) (by omega) (by unfold maxLen; omega) (by omega) (by have : b8 + 1 + 1 < Y3.heap.size := (RR.o11.lt _ rfl).2; omega) _ rfl ?_
                        intro g2 cap2 Y4 hown hgrow hat hlt2
                        have RR := RR.app2 hl2 hown hgrow hat
                        clear hown hgrow hat
                        refine hK.out _ _ (fun _ _ => RR.S) (fun hHeld => ?_)
                        clear hK K
                        try simp only [Act.put, List.setIfInBounds_toArray, List.set_cons_zero, List.set_cons_succ]
                        refine wpAnyT_ready (rs := [22]) (by kernel_rfl) (by simp) ?_
                        (refine' AllReadyT.cons (o := ?o59) ?ho59 (fun K hK => ?step59) AllReadyT.nil; (case ho59 => simp only [List.getElem?_toArray, List.getElem?_cons_zero, List.getElem?_cons_succ]; rfl))
                        go_simp
                        have RR := RR.lit #[.int .i64 (besV l.ps P 0), .int .i64 (besV l.ps P 1), .int .i64 (besV l.ps P 2), .int .i64 (besV l.ps P 3)] 112
                        obtain ⟨Y5, hY⟩ : ∃ Y, Y = Y4.alloc (.cells #[.int .i64 (besV l.ps P 0), .int .i64 (besV l.ps P 1), .int .i64 (besV l.ps P 2), .int .i64 (besV l.ps P 3)] 112) := ⟨_, rfl⟩
                        rw [← hY] at RR ⊢
                        clear hY
                        obtain ⟨L3, hL⟩ : ∃ L, L = Y4.heap.size := ⟨_, rfl⟩
                        rw [← hL] at RR ⊢
                        clear hL
                        refine hK.out _ _ (fun _ _ => RR.S) (fun hHeld => ?_)
                        clear hK K
                        try simp only [Act.put, List.setIfInBounds_toArray, List.set_cons_zero, List.set_cons_succ]
                        refine wpAnyT_ready (rs := [23]) (by kernel_rfl) (by simp) ?_
                        (refine' AllReadyT.cons (o := ?o60) ?ho60 (fun K hK => ?step60) AllReadyT.nil; (case ho60 => simp only [List.getElem?_toArray, List.getElem?_cons_zero, List.getElem?_cons_succ]; rfl))
                        refine step_append_lies _ (by rfl) _ _ _ (by rfl) (w.heap.size + 2) 112 i3 _ 4 32 Try.underlying106 hi3 hiz3 hix3 hiy3 rfl (by omega) v3 k (flat (besC l.ps) (l.ps.take k)) (by rfl) RR.r3 ⟨L3, 0, none⟩ 1 1 (Array.toList #[.int .i64 (besV l.ps P 0), .int .i64 (besV l.ps P 1), .int .i64 (besV l.ps P 2), .int .i64 (besV l.ps P 3)]) (by rfl) (by rfl) (World.news_of_block (RR.lits (L3, #[.int .i64 (besV l.ps P 0), .int .i64 (besV l.ps P 1), .int .i64 (besV l.ps P 2), .int .i64 (besV l.ps P 3)], 112) (by simp)).2) (besC_one l.ps P) (by omega) (by unfold maxLen; omega) (by omega) (by have : b8 + 1 + 1 < Y5.heap.size := (RR.o11.lt _ rfl).2; omega) _ rfl ?_
                        intro g3 cap3 Y6 hown hgrow hat hlt3
                        have RR := RR.app3 hl3 hown hgrow hat
                        clear hown hgrow hat
                        refine hK.out _ _ (fun _ _ => RR.S) (fun hHeld => ?_)
                        clear hK K
                        try simp only [Act.put, List.setIfInBounds_toArray, List.set_cons_zero, List.set_cons_succ]
                        exact TAIL L1 L2 L3 g1 cap1 g2 cap2 g3 cap3 Y6 RR.forget
                      (refine' AllReadyT.cons (o := ?o61) ?ho61 (fun K hK => ?step61) AllReadyT.nil; (case ho61 => simp only [List.getElem?_toArray, List.getElem?_cons_zero, List.getElem?_cons_succ]; rfl))
                      go_simp
                      have RR := RR.lit #[.int .i64 (besV l.ps P 0), .int .i64 (besV l.ps P 1), .int .i64 (besV l.ps P 2), .int .i64 (besV l.ps P 3)] 112
                      obtain ⟨Y4, hY⟩ : ∃ Y, Y = Y3.alloc (.cells #[.int .i64 (besV l.ps P 0), .int .i64 (besV l.ps P 1), .int .i64 (besV l.ps P 2), .int .i64 (besV l.ps P 3)] 112) := ⟨_, rfl⟩
                      rw [← hY] at RR ⊢
                      clear hY
                      obtain ⟨L3, hL⟩ : ∃ L, L = Y3.heap.size := ⟨_, rfl⟩
                      rw [← hL] at RR ⊢
                      clear hL
                      refine hK.out _ _ (fun _ _ => RR.S) (fun hHeld => ?_)
                      clear hK K
                      try simp only [Act.put, List.setIfInBounds_toArray, List.set_cons_zero, List.set_cons_succ]
                      refine wpAnyT_ready (rs := [16]) (by kernel_rfl) (by simp) ?_
                      (refine' AllReadyT.cons (o := ?o62) ?ho62 (fun K hK => ?step62) AllReadyT.nil; (case ho62 => simp only [List.getElem?_toArray, List.getElem?_cons_zero, List.getElem?_cons_succ]; rfl))
                      refine step_append_lies _ (by rfl) _ _ _ (by rfl) (w.heap.size + 2) 111 i2 _ 4 4 Try.underlying105 hi2 hiz2 hix2 hiy2 rfl (by omega) v2 k (flat hitC (l.ps.take k)) (by rfl) RR.r2 ⟨L2, 0, none⟩ 1 1 (Array.toList #[.int .u8 (hv0 P 0), .int .u8 (hv0 P 1), .int .u8 (hv0 P 2), .int .u8 (hv0 P 3)]) (by rfl) (by rfl) (World.news_of_block (RR.lits (L2, #[.int .u8 (hv0 P 0), .int .u8 (hv0 P 1), .int .u8 (hv0 P 2), .int .u8 (hv0 P 3)], 111) (by simp)).2) (hitC_one P) (by omega) (by unfold maxLen; omega) (by omega) (by have : b8 + 1 + 1 < Y4.heap.size := (RR.o11.lt _ rfl).2; omega) _ rfl ?_
                      intro g2 cap2 Y5 hown hgrow hat hlt2
                      have RR := RR.app2 hl2 hown hgrow hat
                      clear hown hgrow hat
                      refine hK.out _ _ (fun _ _ => RR.S) (fun hHeld => ?_)
                      clear hK K
                      try simp only [Act.put, List.setIfInBounds_toArray, List.set_cons_zero, List.set_cons_succ]
                      refine wpAnyT_ready (rs := [23]) (by kernel_rfl) (by simp) ?_
                      (refine' AllReadyT.cons (o := ?o63) ?ho63 (fun K hK => ?step63) AllReadyT.nil; (case ho63 => simp only [List.getElem?_toArray, List.getElem?_cons_zero, List.getElem?_cons_succ]; rfl))
                      refine step_append_lies _ (by rfl) _ _ _ (by rfl) (w.heap.size + 2) 112 i3 _ 4 32 Try.underlying106 hi3 hiz3 hix3 hiy3 rfl (by omega) v3 k (flat (besC l.ps) (l.ps.take k)) (by rfl) RR.r3 ⟨L3, 0, none⟩ 1 1 (Array.toList #[.int .i64 (besV l.ps P 0), .int .i64 (besV l.ps P 1), .int .i64 (besV l.ps P 2), .int .i64 (besV l.ps P 3)]) (by rfl) (by rfl) (World.news_of_block (RR.lits (L3, #[.int .i64 (besV l.ps P 0), .int .i64 (besV l.ps P 1), .int .i64 (besV l.ps P 2), .int .i64 (besV l.ps P 3)], 112) (by simp)).2) (besC_one l.ps P) (by omega) (by unfold maxLen; omega) (by omega) (by have : b8 + 1 + 1 < Y5.heap.size := (RR.o11.lt _ rfl).2; omega) _ rfl ?_
                      intro g3 cap3 Y6 hown hgrow hat hlt3
                      have RR := RR.app3 hl3 hown hgrow hat
                      clear hown hgrow hat
                      refine hK.out _ _ (fun _ _ => RR.S) (fun hHeld => ?_)
                      clear hK K
                      try simp only [Act.put, List.setIfInBounds_toArray, List.set_cons_zero, List.set_cons_succ]
                      exact TAIL L1 L2 L3 g1 cap1 g2 cap2 g3 cap3 Y6 RR.forget
                    (refine' AllReadyT.cons (o := ?o64) ?ho64 (fun K hK => ?step64) AllReadyT.nil; (case ho64 => simp only [List.getElem?_toArray, List.getElem?_cons_zero, List.getElem?_cons_succ]; rfl))
                    go_simp
                    have RR := RR.lit #[.int .i64 (besV l.ps P 0), .int .i64 (besV l.ps P 1), .int .i64 (besV l.ps P 2), .int .i64 (besV l.ps P 3)] 112
                    obtain ⟨Y3, hY⟩ : ∃ Y, Y = Y2.alloc (.cells #[.int .i64 (besV l.ps P 0), .int .i64 (besV l.ps P 1), .int .i64 (besV l.ps P 2), .int .i64 (besV l.ps P 3)] 112) := ⟨_, rfl⟩
                    rw [← hY] at RR ⊢
                    clear hY
                    obtain ⟨L3, hL⟩ : ∃ L, L = Y2.heap.size := ⟨_, rfl⟩
                    rw [← hL] at RR ⊢
                    clear hL
                    refine hK.out _ _ (fun _ _ => RR.S) (fun hHeld => ?_)
                    clear hK K
                    try simp only [Act.put, List.setIfInBounds_toArray, List.set_cons_zero, List.set_cons_succ]
                    refine wpAnyT_ready (rs := [9]) (by kernel_rfl) (by simp) ?_
                    (refine' AllReadyT.cons (o := ?o65) ?ho65 (fun K hK => ?step65) AllReadyT.nil; (case ho65 => simp only [List.getElem?_toArray, List.getElem?_cons_zero, List.getElem?_cons_succ]; rfl))
                    refine step_append_lies _ (by rfl) _ _ _ (by rfl) (w.heap.size + 2) 110 i1 _ 1 1 Try.underlying104 hi1 hiz1 hix1 hiy1 rfl (by omega) v1 k (flat canC (l.ps.take k)) (by rfl) RR.r1 ⟨L1, 0, none⟩ 1 1 (Array.toList #[.int .u8 cv]) (by rfl) (by rfl) (World.news_of_block (RR.lits (L1, #[.int .u8 cv], 110) (by simp)).2) HONE.out (by omega) (by unfold maxLen; omega) (by omega) (by have : b8 + 1 + 1 < Y3.heap.size := (RR.o11.lt _ rfl).2; omega) _ rfl ?_
                    intro g1 cap1 Y4 hown hgrow hat hlt1
                    have RR := RR.app1 hl1 hown hgrow hat
                    clear hown hgrow hat
                    refine hK.out _ _ (fun _ _ => RR.S) (fun hHeld => ?_)
                    clear hK K
                    try simp only [Act.put, List.setIfInBounds_toArray, List.set_cons_zero, List.set_cons_succ]
                    refine wpAnyT_ready (rs := [16]) (by kernel_rfl) (by simp) ?_
                    (refine' AllReadyT.cons (o := ?o66) ?ho66 (fun K hK => ?step66) AllReadyT.nil; (case ho66 => simp only [List.getElem?_toArray, List.getElem?_cons_zero, List.getElem?_cons_succ]; rfl))
                    refine step_append_lies _ (by rfl) _ _ _ (by rfl) (w.heap.size + 2) 111 i2 _ 4 4 Try.underlying105 hi2 hiz2 hix2 hiy2 rfl (by omega) v2 k (flat hitC (l.ps.take k)) (by rfl) RR.r2 ⟨L2, 0, none⟩ 1 1 (Array.toList #[.int .u8 (hv0 P 0), .int .u8 (hv0 P 1), .int .u8 (hv0 P 2), .int .u8 (hv0 P 3)]) (by rfl) (by rfl) (World.news_of_block (RR.lits (L2, #[.int .u8 (hv0 P 0), .int .u8 (hv0 P 1), .int .u8 (hv0 P 2), .int .u8 (hv0 P 3)], 111) (by simp)).2) (hitC_one P) (by omega) (by unfold maxLen; omega) (by omega) (by have : b8 + 1 + 1 < Y4.heap.size := (RR.o11.lt _ rfl).2; omega) _ rfl ?_
                    intro g2 cap2 Y5 hown hgrow hat hlt2
                    have RR := RR.app2 hl2 hown hgrow hat
                    clear hown hgrow hat
                    refine hK.out _ _ (fun _ _ => RR.S) (fun hHeld => ?_)
                    clear hK K
                    try simp only [Act.put, List.setIfInBounds_toArray, List.set_cons_zero, List.set_cons_succ]
                    refine wpAnyT_ready (rs := [23]) (by kernel_rfl) (by simp) ?_
                    (refine' AllReadyT.cons (o := ?o67) ?ho67 (fun K hK => ?step67) AllReadyT.nil; (case ho67 => simp only [List.getElem?_toArray, List.getElem?_cons_zero, List.getElem?_cons_succ]; rfl))
                    refine step_append_lies _ (by rfl) _ _ _ (by rfl) (w.heap.size + 2) 112 i3 _ 4 32 Try.underlying106 hi3 hiz3 hix3 hiy3 rfl (by omega) v3 k (flat (besC l.ps) (l.ps.take k)) (by rfl) RR.r3 ⟨L3, 0, none⟩ 1 1 (Array.toList #[.int .i64 (besV l.ps P 0), .int .i64 (besV l.ps P 1), .int .i64 (besV l.ps P 2), .int .i64 (besV l.ps P 3)]) (by rfl) (by rfl) (World.news_of_block (RR.lits (L3, #[.int .i64 (besV l.ps P 0), .int .i64 (besV l.ps P 1), .int .i64 (besV l.ps P 2), .int .i64 (besV l.ps P 3)], 112) (by simp)).2) (besC_one l.ps P) (by omega) (by unfold maxLen; omega) (by omega) (by have : b8 + 1 + 1 < Y5.heap.size := (RR.o11.lt _ rfl).2; omega) _ rfl ?_
                    intro g3 cap3 Y6 hown hgrow hat hlt3
                    have RR := RR.app3 hl3 hown hgrow hat
                    clear hown hgrow hat
                    refine hK.out _ _ (fun _ _ => RR.S) (fun hHeld => ?_)
                    clear hK K
                    try simp only [Act.put, List.setIfInBounds_toArray, List.set_cons_zero, List.set_cons_succ]
                    exact TAIL L1 L2 L3 g1 cap1 g2 cap2 g3 cap3 Y6 RR.forget
                  (refine' AllReadyT.cons (o := ?o68) ?ho68 (fun K hK => ?step68) AllReadyT.nil; (case ho68 => simp only [List.getElem?_toArray, List.getElem?_cons_zero, List.getElem?_cons_succ]; rfl))
                  go_simp
                  have RR := RR.lit #[.int .i64 (besV l.ps P 0), .int .i64 (besV l.ps P 1), .int .i64 (besV l.ps P 2), .int .i64 (besV l.ps P 3)] 112
                  obtain ⟨Y2, hY⟩ : ∃ Y, Y = Y1.alloc (.cells #[.int .i64 (besV l.ps P 0), .int .i64 (besV l.ps P 1), .int .i64 (besV l.ps P 2), .int .i64 (besV l.ps P 3)] 112) := ⟨_, rfl⟩
                  rw [← hY] at RR ⊢
                  clear hY
                  obtain ⟨L3, hL⟩ : ∃ L, L = Y1.heap.size := ⟨_, rfl⟩
                  rw [← hL] at RR ⊢
                  clear hL
                  refine hK.out _ _ (fun _ _ => RR.S) (fun hHeld => ?_)
                  clear hK K
                  try simp only [Act.put, List.setIfInBounds_toArray, List.set_cons_zero, List.set_cons_succ]
                  refine wpAnyT_ready (rs := [8]) (by kernel_rfl) (by simp) ?_
                  (refine' AllReadyT.cons (o := ?o69) ?ho69 (fun K hK => ?step69) AllReadyT.nil; (case ho69 => simp only [List.getElem?_toArray, List.getElem?_cons_zero, List.getElem?_cons_succ]; rfl))
                  go_simp
                  have RR := RR.lit #[.int .u8 cv] 110
                  obtain ⟨Y3, hY⟩ : ∃ Y, Y = Y2.alloc (.cells #[.int .u8 cv] 110) := ⟨_, rfl⟩
                  rw [← hY] at RR ⊢
                  clear hY
                  obtain ⟨L1, hL⟩ : ∃ L, L = Y2.heap.size := ⟨_, rfl⟩
                  rw [← hL] at RR ⊢
                  clear hL
                  refine hK.out _ _ (fun _ _ => RR.S) (fun hHeld => ?_)
                  clear hK K
                  try simp only [Act.put, List.setIfInBounds_toArray, List.set_cons_zero, List.set_cons_succ]
                  refine wpAnyT_ready (rs := [9]) (by kernel_rfl) (by simp) ?_
                  (refine' AllReadyT.cons (o := ?o70) ?ho70 (fun K hK => ?step70) AllReadyT.nil; (case ho70 => simp only [List.getElem?_toArray, List.getElem?_cons_zero, List.getElem?_cons_succ]; rfl))
                  refine step_append_lies _ (by rfl) _ _ _ (by rfl) (w.heap.size + 2) 110 i1 _ 1 1 Try.underlying104 hi1 hiz1 hix1 hiy1 rfl (by omega) v1 k (flat canC (l.ps.take k)) (by rfl) RR.r1 ⟨L1, 0, none⟩ 1 1 (Array.toList #[.int .u8 cv]) (by rfl) (by rfl) (World.news_of_block (RR.lits (L1, #[.int .u8 cv], 110) (by simp)).2) HONE.out (by omega) (by unfold maxLen; omega) (by omega) (by have : b8 + 1 + 1 < Y3.heap.size := (RR.o11.lt _ rfl).2; omega) _ rfl ?_
                  intro g1 cap1 Y4 hown hgrow hat hlt1
                  have RR := RR.app1 hl1 hown hgrow hat
                  clear hown hgrow hat
                  refine hK.out _ _ (fun _ _ => RR.S) (fun hHeld => ?_)
                  clear hK K
                  try simp only [Act.put, List.setIfInBounds_toArray, List.set_cons_zero, List.set_cons_succ]
                  refine wpAnyT_ready (rs := [16]) (by kernel_rfl) (by simp) ?_
                  (refine' AllReadyT.cons (o := ?o71) ?ho71 (fun K hK => ?step71) AllReadyT.nil; (case ho71 => simp only [List.getElem?_toArray, List.getElem?_cons_zero, List.getElem?_cons_succ]; rfl))
                  refine step_append_lies _ (by rfl) _ _ _ (by rfl) (w.heap.size + 2) 111 i2 _ 4 4 Try.underlying105 hi2 hiz2 hix2 hiy2 rfl (by omega) v2 k (flat hitC (l.ps.take k)) (by rfl) RR.r2 ⟨L2, 0, none⟩ 1 1 (Array.toList #[.int .u8 (hv0 P 0), .int .u8 (hv0 P 1), .int .u8 (hv0 P 2), .int .u8 (hv0 P 3)]) (by rfl) (by rfl) (World.news_of_block (RR.lits (L2, #[.int .u8 (hv0 P 0), .int .u8 (hv0 P 1), .int .u8 (hv0 P 2), .int .u8 (hv0 P 3)], 111) (by simp)).2) (hitC_one P) (by omega) (by unfold maxLen; omega) (by omega) (by have : b8 + 1 + 1 < Y4.heap.size := (RR.o11.lt _ rfl).2; omega) _ rfl ?_
                  intro g2 cap2 Y5 hown hgrow hat hlt2
                  have RR := RR.app2 hl2 hown hgrow hat
                  clear hown hgrow hat
                  refine hK.out _ _ (fun _ _ => RR.S) (fun hHeld => ?_)
                  clear hK K
                  try simp only [Act.put, List.setIfInBounds_toArray, List.set_cons_zero, List.set_cons_succ]
                  refine wpAnyT_ready (rs := [23]) (by kernel_rfl) (by simp) ?_
                  (refine' AllReadyT.cons (o := ?o72) ?ho72 (fun K hK => ?step72) AllReadyT.nil; (case ho72 => simp only [List.getElem?_toArray, List.getElem?_cons_zero, List.getElem?_cons_succ]; rfl))
                  refine step_append_lies _ (by rfl) _ _ _ (by rfl) (w.heap.size + 2) 112 i3 _ 4 32 Try.underlying106 hi3 hiz3 hix3 hiy3 rfl (by omega) v3 k (flat (besC l.ps) (l.ps.take k)) (by rfl) RR.r3 ⟨L3, 0, none⟩ 1 1 (Array.toList #[.int .i64 (besV l.ps P 0), .int .i64 (besV l.ps P 1), .int .i64 (besV l.ps P 2), .int .i64 (besV l.ps P 3)]) (by rfl) (by rfl) (World.news_of_block (RR.lits (L3, #[.int .i64 (besV l.ps P 0), .int .i64 (besV l.ps P 1), .int .i64 (besV l.ps P 2), .int .i64 (besV l.ps P 3)], 112) (by simp)).2) (besC_one l.ps P) (by omega) (by unfold maxLen; omega) (by omega) (by have : b8 + 1 + 1 < Y5.heap.size := (RR.o11.lt _ rfl).2; omega) _ rfl ?_
                  intro g3 cap3 Y6 hown hgrow hat hlt3
                  have RR := RR.app3 hl3 hown hgrow hat
                  clear hown hgrow hat
                  refine hK.out _ _ (fun _ _ => RR.S) (fun hHeld => ?_)
                  clear hK K
                  try simp only [Act.put, List.setIfInBounds_toArray, List.set_cons_zero, List.set_cons_succ]
                  exact TAIL L1 L2 L3 g1 cap1 g2 cap2 g3 cap3 Y6 RR.forget
                (refine' AllReadyT.cons (o := ?o73) ?ho73 (fun K hK => ?step73) AllReadyT.nil; (case ho73 => simp only [List.getElem?_toArray, List.getElem?_cons_zero, List.getElem?_cons_succ]; rfl))
                go_simp
                have RR := RR.lit #[.int .i64 (besV l.ps P 0), .int .i64 (besV l.ps P 1), .int .i64 (besV l.ps P 2), .int .i64 (besV l.ps P 3)] 112
                obtain ⟨Y1, hY⟩ : ∃ Y, Y = Y0.alloc (.cells #[.int .i64 (besV l.ps P 0), .int .i64 (besV l.ps P 1), .int .i64 (besV l.ps P 2), .int .i64 (besV l.ps P 3)] 112) := ⟨_, rfl⟩
                rw [← hY] at RR ⊢
                clear hY
                obtain ⟨L3, hL⟩ : ∃ L, L = Y0.heap.size := ⟨_, rfl⟩
                rw [← hL] at RR ⊢
                clear hL
                refine hK.out _ _ (fun _ _ => RR.S) (fun hHeld => ?_)
                clear hK K
                try simp only [Act.put, List.setIfInBounds_toArray, List.set_cons_zero, List.set_cons_succ]
                refine wpAnyT_ready (rs := [8, 15]) (by kernel_rfl) (by simp) ?_
                (refine' AllReadyT.cons (o := ?o31) ?ho31 (fun K hK => ?step31) ?more31; (case ho31 => simp only [List.getElem?_toArray, List.getElem?_cons_zero, List.getElem?_cons_succ]; rfl))
                · go_simp
                  have RR := RR.lit #[.int .u8 cv] 110
                  obtain ⟨Y2, hY⟩ : ∃ Y, Y = Y1.alloc (.cells #[.int .u8 cv] 110) := ⟨_, rfl⟩
                  rw [← hY] at RR ⊢
                  clear hY
                  obtain ⟨L1, hL⟩ : ∃ L, L = Y1.heap.size := ⟨_, rfl⟩
                  rw [← hL] at RR ⊢
                  clear hL
                  refine hK.out _ _ (fun _ _ => RR.S) (fun hHeld => ?_)
                  clear hK K
                  try simp only [Act.put, List.setIfInBounds_toArray, List.set_cons_zero, List.set_cons_succ]
                  refine wpAnyT_ready (rs := [9, 15]) (by kernel_rfl) (by simp) ?_
                  (refine' AllReadyT.cons (o := ?o32) ?ho32 (fun K hK => ?step32) ?more32; (case ho32 => simp only [List.getElem?_toArray, List.getElem?_cons_zero, List.getElem?_cons_succ]; rfl))
                  · refine step_append_lies _ (by rfl) _ _ _ (by rfl) (w.heap.size + 2) 110 i1 _ 1 1 Try.underlying104 hi1 hiz1 hix1 hiy1 rfl (by omega) v1 k (flat canC (l.ps.take k)) (by rfl) RR.r1 ⟨L1, 0, none⟩ 1 1 (Array.toList #[.int .u8 cv]) (by rfl) (by rfl) (World.news_of_block (RR.lits (L1, #[.int .u8 cv], 110) (by simp)).2) HONE.out (by omega) (by unfold maxLen; omega) (by omega) (by have : b8 + 1 + 1 < Y2.heap.size := (RR.o11.lt _ rfl).2; omega) _ rfl ?_
                    intro g1 cap1 Y3 hown hgrow hat hlt1
                    have RR := RR.app1 hl1 hown hgrow hat
                    clear hown hgrow hat
                    refine hK.out _ _ (fun _ _ => RR.S) (fun hHeld => ?_)
                    clear hK K
                    try simp only [Act.put, List.setIfInBounds_toArray, List.set_cons_zero, List.set_cons_succ]
                    refine wpAnyT_ready (rs := [15]) (by kernel_rfl) (by simp) ?_
                    (refine' AllReadyT.cons (o := ?o74) ?ho74 (fun K hK => ?step74) AllReadyT.nil; (case ho74 => simp only [List.getElem?_toArray, List.getElem?_cons_zero, List.getElem?_cons_succ]; rfl))
                    go_simp
                    have RR := RR.lit #[.int .u8 (hv0 P 0), .int .u8 (hv0 P 1), .int .u8 (hv0 P 2), .int .u8 (hv0 P 3)] 111
                    obtain ⟨Y4, hY⟩ : ∃ Y, Y = Y3.alloc (.cells #[.int .u8 (hv0 P 0), .int .u8 (hv0 P 1), .int .u8 (hv0 P 2), .int .u8 (hv0 P 3)] 111) := ⟨_, rfl⟩
                    rw [← hY] at RR ⊢
                    clear hY
                    obtain ⟨L2, hL⟩ : ∃ L, L = Y3.heap.size := ⟨_, rfl⟩
                    rw [← hL] at RR ⊢
                    clear hL
                    refine hK.out _ _ (fun _ _ => RR.S) (fun hHeld => ?_)
                    clear hK K
                    try simp only [Act.put, List.setIfInBounds_toArray, List.set_cons_zero, List.set_cons_succ]
                    refine wpAnyT_ready (rs := [16]) (by kernel_rfl) (by simp) ?_
                    (refine' AllReadyT.cons (o := ?o75) ?ho75 (fun K hK => ?step75) AllReadyT.nil; (case ho75 => simp only [List.getElem?_toArray, List.getElem?_cons_zero, List.getElem?_cons_succ]; rfl))
                    refine step_append_lies _ (by rfl) _ _ _ (by rfl) (w.heap.size + 2) 111 i2 _ 4 4 Try.underlying105 hi2 hiz2 hix2 hiy2 rfl (by omega) v2 k (flat hitC (l.ps.take k)) (by rfl) RR.r2 ⟨L2, 0, none⟩ 1 1 (Array.toList #[.int .u8 (hv0 P 0), .int .u8 (hv0 P 1), .int .u8 (hv0 P 2), .int .u8 (hv0 P 3)]) (by rfl) (by rfl) (World.news_of_block (RR.lits (L2, #[.int .u8 (hv0 P 0), .int .u8 (hv0 P 1), .int .u8 (hv0 P 2), .int .u8 (hv0 P 3)], 111) (by simp)).2) (hitC_one P) (by omega) (by unfold maxLen; omega) (by omega) (by have : b8 + 1 + 1 < Y4.heap.size := (RR.o11.lt _ rfl).2; omega) _ rfl ?_
                    intro g2 cap2 Y5 hown hgrow hat hlt2
                    have RR := RR.app2 hl2 hown hgrow hat
                    clear hown hgrow hat
                    refine hK.out _ _ (fun _ _ => RR.S) (fun hHeld => ?_)
                    clear hK K
                    try simp only [Act.put, List.setIfInBounds_toArray, List.set_cons_zero, List.set_cons_succ]
                    refine wpAnyT_ready (rs := [23]) (by kernel_rfl) (by simp) ?_
                    (refine' AllReadyT.cons (o := ?o76) ?ho76 (fun K hK => ?step76) AllReadyT.nil; (case ho76 => simp only [List.getElem?_toArray, List.getElem?_cons_zero, List.getElem?_cons_succ]; rfl))
                    refine step_append_lies _ (by rfl) _ _ _ (by rfl) (w.heap.size + 2) 112 i3 _ 4 32 Try.underlying106 hi3 hiz3 hix3 hiy3 rfl (by omega) v3 k (flat (besC l.ps) (l.ps.take k)) (by rfl) RR.r3 ⟨L3, 0, none⟩ 1 1 (Array.toList #[.int .i64 (besV l.ps P 0), .int .i64 (besV l.ps P 1), .int .i64 (besV l.ps P 2), .int .i64 (besV l.ps P 3)]) (by rfl) (by rfl) (World.news_of_block (RR.lits (L3, #[.int .i64 (besV l.ps P 0), .int .i64 (besV l.ps P 1), .int .i64 (besV l.ps P 2), .int .i64 (besV l.ps P 3)], 112) (by simp)).2) (besC_one l.ps P) (by omega) (by unfold maxLen; omega) (by omega) (by have : b8 + 1 + 1 < Y5.heap.size := (RR.o11.lt _ rfl).2; omega) _ rfl ?_
                    intro g3 cap3 Y6 hown hgrow hat hlt3
                    have RR := RR.app3 hl3 hown hgrow hat
                    clear hown hgrow hat
                    refine hK.out _ _ (fun _ _ => RR.S) (fun hHeld => ?_)
                    clear hK K
                    try simp only [Act.put, List.setIfInBounds_toArray, List.set_cons_zero, List.set_cons_succ]
                    exact TAIL L1 L2 L3 g1 cap1 g2 cap2 g3 cap3 Y6 RR.forget
                  (refine' AllReadyT.cons (o := ?o77) ?ho77 (fun K hK => ?step77) AllReadyT.nil; (case ho77 => simp only [List.getElem?_toArray, List.getElem?_cons_zero, List.getElem?_cons_succ]; rfl))
                  go_simp
                  have RR := RR.lit #[.int .u8 (hv0 P 0), .int .u8 (hv0 P 1), .int .u8 (hv0 P 2), .int .u8 (hv0 P 3)] 111
                  obtain ⟨Y3, hY⟩ : ∃ Y, Y = Y2.alloc (.cells #[.int .u8 (hv0 P 0), .int .u8 (hv0 P 1), .int .u8 (hv0 P 2), .int .u8 (hv0 P 3)] 111) := ⟨_, rfl⟩
                  rw [← hY] at RR ⊢
                  clear hY
                  obtain ⟨L2, hL⟩ : ∃ L, L = Y2.heap.size := ⟨_, rfl⟩
                  rw [← hL] at RR ⊢
                  clear hL
                  refine hK.out _ _ (fun _ _ => RR.S) (fun hHeld => ?_)
                  clear hK K
                  try simp only [Act.put, List.setIfInBounds_toArray, List.set_cons_zero, List.set_cons_succ]
                  refine wpAnyT_ready (rs := [9]) (by kernel_rfl) (by simp) ?_
                  (refine' AllReadyT.cons (o := ?o78) ?ho78 (fun K hK => ?step78) AllReadyT.nil; (case ho78 => simp only [List.getElem?_toArray, List.getElem?_cons_zero, List.getElem?_cons_succ]; rfl))
                  refine step_append_lies _ (by rfl) _ _ _ (by rfl) (w.heap.size + 2) 110 i1 _ 1 1 Try.underlying104 hi1 hiz1 hix1 hiy1 rfl (by omega) v1 k (flat canC (l.ps.take k)) (by rfl) RR.r1 ⟨L1, 0, none⟩ 1 1 (Array.toList #[.int .u8 cv]) (by rfl) (by rfl) (World.news_of_block (RR.lits (L1, #[.int .u8 cv], 110) (by simp)).2) HONE.out (by omega) (by unfold maxLen; omega) (by omega) (by have : b8 + 1 + 1 < Y3.heap.size := (RR.o11.lt _ rfl).2; omega) _ rfl ?_
                  intro g1 cap1 Y4 hown hgrow hat hlt1
                  have RR := RR.app1 hl1 hown hgrow hat
                  clear hown hgrow hat
                  refine hK.out _ _ (fun _ _ => RR.S) (fun hHeld => ?_)
                  clear hK K
                  try simp only [Act.put, List.setIfInBounds_toArray, List.set_cons_zero, List.set_cons_succ]
                  refine wpAnyT_ready (rs := [16]) (by kernel_rfl) (by simp) ?_
                  (refine' AllReadyT.cons (o := ?o79) ?ho79 (fun K hK => ?step79) AllReadyT.nil; (case ho79 => simp only [List.getElem?_toArray, List.getElem?_cons_zero, List.getElem?_cons_succ]; rfl))
                  refine step_append_lies _ (by rfl) _ _ _ (by rfl) (w.heap.size + 2) 111 i2 _ 4 4 Try.underlying105 hi2 hiz2 hix2 hiy2 rfl (by omega) v2 k (flat hitC (l.ps.take k)) (by rfl) RR.r2 ⟨L2, 0, none⟩ 1 1 (Array.toList #[.int .u8 (hv0 P 0), .int .u8 (hv0 P 1), .int .u8 (hv0 P 2), .int .u8 (hv0 P 3)]) (by rfl) (by rfl) (World.news_of_block (RR.lits (L2, #[.int .u8 (hv0 P 0), .int .u8 (hv0 P 1), .int .u8 (hv0 P 2), .int .u8 (hv0 P 3)], 111) (by simp)).2) (hitC_one P) (by omega) (by unfold maxLen; omega) (by omega) (by have : b8 + 1 + 1 < Y4.heap.size := (RR.o11.lt _ rfl).2; omega) _ rfl ?_
                  intro g2 cap2 Y5 hown hgrow hat hlt2
                  have RR := RR.app2 hl2 hown hgrow hat
                  clear hown hgrow hat
                  refine hK.out _ _ (fun _ _ => RR.S) (fun hHeld => ?_)
                  clear hK K
                  try simp only [Act.put, List.setIfInBounds_toArray, List.set_cons_zero, List.set_cons_succ]
                  refine wpAnyT_ready (rs := [23]) (by kernel_rfl) (by simp) ?_
                  (refine' AllReadyT.cons (o := ?o80) ?ho80 (fun K hK => ?step80) AllReadyT.nil; (case ho80 => simp only [List.getElem?_toArray, List.getElem?_cons_zero, List.getElem?_cons_succ]; rfl))
                  refine step_append_lies _ (by rfl) _ _ _ (by rfl) (w.heap.size + 2) 112 i3 _ 4 32 Try.underlying106 hi3 hiz3 hix3 hiy3 rfl (by omega) v3 k (flat (besC l.ps) (l.ps.take k)) (by rfl) RR.r3 ⟨L3, 0, none⟩ 1 1 (Array.toList #[.int .i64 (besV l.ps P 0), .int .i64 (besV l.ps P 1), .int .i64 (besV l.ps P 2), .int .i64 (besV l.ps P 3)]) (by rfl) (by rfl) (World.news_of_block (RR.lits (L3, #[.int .i64 (besV l.ps P 0), .int .i64 (besV l.ps P 1), .int .i64 (besV l.ps P 2), .int .i64 (besV l.ps P 3)], 112) (by simp)).2) (besC_one l.ps P) (by omega) (by unfold maxLen; omega) (by omega) (by have : b8 + 1 + 1 < Y5.heap.size := (RR.o11.lt _ rfl).2; omega) _ rfl ?_
                  intro g3 cap3 Y6 hown hgrow hat hlt3
                  have RR := RR.app3 hl3 hown hgrow hat
                  clear hown hgrow hat
                  refine hK.out _ _ (fun _ _ => RR.S) (fun hHeld => ?_)
                  clear hK K
                  try simp only [Act.put, List.setIfInBounds_toArray, List.set_cons_zero, List.set_cons_succ]
                  exact TAIL L1 L2 L3 g1 cap1 g2 cap2 g3 cap3 Y6 RR.forget
                (refine' AllReadyT.cons (o := ?o81) ?ho81 (fun K hK => ?step81) AllReadyT.nil; (case ho81 => simp only [List.getElem?_toArray, List.getElem?_cons_zero, List.getElem?_cons_succ]; rfl))
                go_simp
                have RR := RR.lit #[.int .u8 (hv0 P 0), .int .u8 (hv0 P 1), .int .u8 (hv0 P 2), .int .u8 (hv0 P 3)] 111
                obtain ⟨Y2, hY⟩ : ∃ Y, Y = Y1.alloc (.cells #[.int .u8 (hv0 P 0), .int .u8 (hv0 P 1), .int .u8 (hv0 P 2), .int .u8 (hv0 P 3)] 111) := ⟨_, rfl⟩
                rw [← hY] at RR ⊢
                clear hY
                obtain ⟨L2, hL⟩ : ∃ L, L = Y1.heap.size := ⟨_, rfl⟩
                rw [← hL] at RR ⊢
                clear hL
                refine hK.out _ _ (fun _ _ => RR.S) (fun hHeld => ?_)
                clear hK K
                try simp only [Act.put, List.setIfInBounds_toArray, List.set_cons_zero, List.set_cons_succ]
                refine wpAnyT_ready (rs := [8]) (by kernel_rfl) (by simp) ?_
                (refine' AllReadyT.cons (o := ?o82) ?ho82 (fun K hK => ?step82) AllReadyT.nil; (case ho82 => simp only [List.getElem?_toArray, List.getElem?_cons_zero, List.getElem?_cons_succ]; rfl))
                go_simp
                have RR := RR.lit #[.int .u8 cv] 110
                obtain ⟨Y3, hY⟩ : ∃ Y, Y = Y2.alloc (.cells #[.int .u8 cv] 110) := ⟨_, rfl⟩
                rw [← hY] at RR ⊢
                clear hY
                obtain ⟨L1, hL⟩ : ∃ L, L = Y2.heap.size := ⟨_, rfl⟩
                rw [← hL] at RR ⊢
                clear hL
                refine hK.out _ _ (fun _ _ => RR.S) (fun hHeld => ?_)
                clear hK K
                try simp only [Act.put, List.setIfInBounds_toArray, List.set_cons_zero, List.set_cons_succ]
                refine wpAnyT_ready (rs := [9]) (by kernel_rfl) (by simp) ?_
                (refine' AllReadyT.cons (o := ?o83) ?ho83 (fun K hK => ?step83) AllReadyT.nil; (case ho83 => simp only [List.getElem?_toArray, List.getElem?_cons_zero, List.getElem?_cons_succ]; rfl))
                refine step_append_lies _ (by rfl) _ _ _ (by rfl) (w.heap.size + 2) 110 i1 _ 1 1 Try.underlying104 hi1 hiz1 hix1 hiy1 rfl (by omega) v1 k (flat canC (l.ps.take k)) (by rfl) RR.r1 ⟨L1, 0, none⟩ 1 1 (Array.toList #[.int .u8 cv]) (by rfl) (by rfl) (World.news_of_block (RR.lits (L1, #[.int .u8 cv], 110) (by simp)).2) HONE.out (by omega) (by unfold maxLen; omega) (by omega) (by have : b8 + 1 + 1 < Y3.heap.size := (RR.o11.lt _ rfl).2; omega) _ rfl ?_
                intro g1 cap1 Y4 hown hgrow hat hlt1
                have RR := RR.app1 hl1 hown hgrow hat
                clear hown hgrow hat
                refine hK.out _ _ (fun _ _ => RR.S) (fun hHeld => ?_)
                clear hK K
                try simp only [Act.put, List.setIfInBounds_toArray, List.set_cons_zero, List.set_cons_succ]
                refine wpAnyT_ready (rs := [16]) (by kernel_rfl) (by simp) ?_
                (refine' AllReadyT.cons (o := ?o84) ?ho84 (fun K hK => ?step84) AllReadyT.nil; (case ho84 => simp only [List.getElem?_toArray, List.getElem?_cons_zero, List.getElem?_cons_succ]; rfl))
                refine step_append_lies _ (by rfl) _ _ _ (by rfl) (w.heap.size + 2) 111 i2 _ 4 4 Try.underlying105 hi2 hiz2 hix2 hiy2 rfl (by omega) v2 k (flat hitC (l.ps.take k)) (by rfl) RR.r2 ⟨L2, 0, none⟩ 1 1 (Array.toList #[.int .u8 (hv0 P 0), .int .u8 (hv0 P 1), .int .u8 (hv0 P 2), .int .u8 (hv0 P 3)]) (by rfl) (by rfl) (World.news_of_block (RR.lits (L2, #[.int .u8 (hv0 P 0), .int .u8 (hv0 P 1), .int .u8 (hv0 P 2), .int .u8 (hv0 P 3)], 111) (by simp)).2) (hitC_one P) (by omega) (by unfold maxLen; omega) (by omega) (by have : b8 + 1 + 1 < Y4.heap.size := (RR.o11.lt _ rfl).2; omega) _ rfl ?_
                intro g2 cap2 Y5 hown hgrow hat hlt2
                have RR := RR.app2 hl2 hown hgrow hat
                clear hown hgrow hat
                refine hK.out _ _ (fun _ _ => RR.S) (fun hHeld => ?_)
                clear hK K
                try simp only [Act.put, List.setIfInBounds_toArray, List.set_cons_zero, List.set_cons_succ]
                refine wpAnyT_ready (rs := [23]) (by kernel_rfl) (by simp) ?_
                (refine' AllReadyT.cons (o := ?o85) ?ho85 (fun K hK => ?step85) AllReadyT.nil; (case ho85 => simp only [List.getElem?_toArray, List.getElem?_cons_zero, List.getElem?_cons_succ]; rfl))
                refine step_append_lies _ (by rfl) _ _ _ (by rfl) (w.heap.size + 2) 112 i3 _ 4 32 Try.underlying106 hi3 hiz3 hix3 hiy3 rfl (by omega) v3 k (flat (besC l.ps) (l.ps.take k)) (by rfl) RR.r3 ⟨L3, 0, none⟩ 1 1 (Array.toList #[.int .i64 (besV l.ps P 0), .int .i64 (besV l.ps P 1), .int .i64 (besV l.ps P 2), .int .i64 (besV l.ps P 3)]) (by rfl) (by rfl) (World.news_of_block (RR.lits (L3, #[.int .i64 (besV l.ps P 0), .int .i64 (besV l.ps P 1), .int .i64 (besV l.ps P 2), .int .i64 (besV l.ps P 3)], 112) (by simp)).2) (besC_one l.ps P) (by omega) (by unfold maxLen; omega) (by omega) (by have : b8 + 1 + 1 < Y5.heap.size := (RR.o11.lt _ rfl).2; omega) _ rfl ?_
                intro g3 cap3 Y6 hown hgrow hat hlt3
                have RR := RR.app3 hl3 hown hgrow hat
                clear hown hgrow hat
                refine hK.out _ _ (fun _ _ => RR.S) (fun hHeld => ?_)
                clear hK K
                try simp only [Act.put, List.setIfInBounds_toArray, List.set_cons_zero, List.set_cons_succ]
                exact TAIL L1 L2 L3 g1 cap1 g2 cap2 g3 cap3 Y6 RR.forget
              case tailQ =>
                intro L1 L2 L3 g1 cap1 g2 cap2 g3 cap3 Y RR
                try simp only [Act.put, List.setIfInBounds_toArray, List.set_cons_zero, List.set_cons_succ]
                have st := RR.st
                have hst1 : Y.ownsRow w.heap.size 108 4 (.slice (some ⟨w.heap.size, 0, none⟩) 1 1) 1 [.slice (some ⟨b', off, none⟩) l.ps.length scap, v1, v2, v3] := st
                clear st
                obtain ⟨⟨z1, s1⟩, t1⟩ := own_cell hst1 (j := 1) (by omega)
                obtain ⟨⟨z2, s2⟩, t2⟩ := own_cell hst1 (j := 2) (by omega)
                obtain ⟨⟨z3, s3⟩, t3⟩ := own_cell hst1 (j := 3) (by omega)
                refine wpAnyT_ready (rs := [24]) (by kernel_rfl) (by simp) ?_
                (refine' AllReadyT.cons (o := ?o86) ?ho86 (fun K hK => ?step86) AllReadyT.nil; (case ho86 => simp only [List.getElem?_toArray, List.getElem?_cons_zero, List.getElem?_cons_succ]; rfl))
                go_simp
                refine hK.out _ _ (fun _ h => absurd h (by decide)) (fun _ => ?_)
                clear hK K
                try simp only [Act.put, List.setIfInBounds_toArray, List.set_cons_zero, List.set_cons_succ]
                refine wpAnyT_ready (rs := [25]) (by kernel_rfl) (by simp) ?_
                (refine' AllReadyT.cons (o := ?o87) ?ho87 (fun K hK => ?step87) AllReadyT.nil; (case ho87 => simp only [List.getElem?_toArray, List.getElem?_cons_zero, List.getElem?_cons_succ]; rfl))
                go_simp
                refine hK.out _ _ (fun _ h => absurd h (by decide)) (fun _ => ?_)
                clear hK K
                try simp only [Act.put, List.setIfInBounds_toArray, List.set_cons_zero, List.set_cons_succ]
                refine wpAnyT_ready (rs := [26]) (by kernel_rfl) (by simp) ?_
                (refine' AllReadyT.cons (o := ?o88) ?ho88 (fun K hK => ?step88) AllReadyT.nil; (case ho88 => simp only [List.getElem?_toArray, List.getElem?_cons_zero, List.getElem?_cons_succ]; rfl))
                go_simp
                refine hK.out _ _ (fun _ h => absurd h (by decide)) (fun _ => ?_)
                clear hK K
                try simp only [Act.put, List.setIfInBounds_toArray, List.set_cons_zero, List.set_cons_succ]
                refine wpAnyT_ready (rs := [27]) (by kernel_rfl) (by simp) ?_
                (refine' AllReadyT.cons (o := ?o89) ?ho89 (fun K hK => ?step89) AllReadyT.nil; (case ho89 => simp only [List.getElem?_toArray, List.getElem?_cons_zero, List.getElem?_cons_succ]; rfl))
                go_simp
                refine hK.out _ _ (fun _ h => absurd h (by decide)) (fun _ => ?_)
                clear hK K
                try simp only [Act.put, List.setIfInBounds_toArray, List.set_cons_zero, List.set_cons_succ]
                refine wpAnyT_ready (rs := [28]) (by kernel_rfl) (by simp) ?_
                (refine' AllReadyT.cons (o := ?o90) ?ho90 (fun K hK => ?step90) AllReadyT.nil; (case ho90 => simp only [List.getElem?_toArray, List.getElem?_cons_zero, List.getElem?_cons_succ]; rfl))
                go_simp
                refine hK.out _ _ (fun _ h => absurd h (by decide)) (fun _ => ?_)
                clear hK K
                try simp only [Act.put, List.setIfInBounds_toArray, List.set_cons_zero, List.set_cons_succ]
                refine wpAnyT_ready (rs := [29]) (by kernel_rfl) (by simp) ?_
                (refine' AllReadyT.cons (o := ?o91) ?ho91 (fun K hK => ?step91) AllReadyT.nil; (case ho91 => simp only [List.getElem?_toArray, List.getElem?_cons_zero, List.getElem?_cons_succ]; rfl))
                go_simp
                refine hK.out _ _ (fun _ h => absurd h (by decide)) (fun _ => ?_)
                clear hK K
                try simp only [Act.put, List.setIfInBounds_toArray, List.set_cons_zero, List.set_cons_succ]
                refine wpAnyT_ready (rs := [30]) (by kernel_rfl) (by simp) ?_
                (refine' AllReadyT.cons (o := ?o92) ?ho92 (fun K hK => ?step92) AllReadyT.nil; (case ho92 => simp only [List.getElem?_toArray, List.getElem?_cons_zero, List.getElem?_cons_succ]; rfl))
                go_simp
                refine hK.out _ _ (fun _ h => absurd h (by decide)) (fun _ => ?_)
                clear hK K
                try simp only [Act.put, List.setIfInBounds_toArray, List.set_cons_zero, List.set_cons_succ]
                refine wpAnyT_ready (rs := [31]) (by kernel_rfl) (by simp) ?_
                (refine' AllReadyT.cons (o := ?o93) ?ho93 (fun K hK => ?step93) AllReadyT.nil; (case ho93 => simp only [List.getElem?_toArray, List.getElem?_cons_zero, List.getElem?_cons_succ]; rfl))
                go_simp
                refine hK.out _ _ (fun _ h => absurd h (by decide)) (fun _ => ?_)
                clear hK K
                try simp only [Act.put, List.setIfInBounds_toArray, List.set_cons_zero, List.set_cons_succ]
                refine wpAnyT_ready (rs := [32]) (by kernel_rfl) (by simp) ?_
                (refine' AllReadyT.cons (o := ?o94) ?ho94 (fun K hK => ?step94) AllReadyT.nil; (case ho94 => simp only [List.getElem?_toArray, List.getElem?_cons_zero, List.getElem?_cons_succ]; rfl))
                go_simp
                refine hK.out _ _ (fun _ h => absurd h (by decide)) (fun _ => ?_)
                clear hK K
                try simp only [Act.put, List.setIfInBounds_toArray, List.set_cons_zero, List.set_cons_succ]
                refine wpAnyT_done (by kernel_rfl) ?_ _
                clear s1 t1 s2 t2 s3 t3 hst1
                obtain ⟨u1, u2, u3, u4, u5', u6', u7', u8', u9'⟩ := RR.done
                have htk : l.ps.take (k + 1) = l.ps.take k ++ [P] := by rw [HP.out]; exact List.take_succ_eq_append_getElem hlt
                have U1 := Lib.hid u1
                have U2 := Lib.hid u2
                have U3 := Lib.hid u3
                have U4 := Lib.hid u4
                clear u1 u2 u3 u4 RR
                have U5 := Lib.hid u5'
                have U6 := Lib.hid u6'
                have U7 := Lib.hid u7'
                have U8 := Lib.hid u8'
                have U9 := Lib.hid u9'
                clear u5' u6' u7' u8' u9'
                go_wp2
                go_roundw
                case rel =>
                  refine ⟨k + 1, _, _, _, by omega, by go_num, U1.out, ?_, ?_, ?_, U5.out, U6.out, U7.out, U8.out, U9.out⟩
                  · rw [htk, flat_append]; have := U2.out; rw [HCV.out] at this; exact this
                  · rw [htk, flat_append]; exact U3.out
                  · rw [htk, flat_append]; exact U4.out
                case measure => simp [intOf]; omega
        · have hkn : k = l.ps.length := by omega
          subst hkn
          rw [List.take_length] at hr1 hr2 hr3
          go_wp2
          go_ret
          exact ⟨w.heap.size, rfl, Nat.le_refl _, ⟨by omega, _, _, _, _, ⟨by rw [hst.cellAt _ (by omega)]; rfl, by rw [hst.cellAt _ (by omega)]; rfl, by rw [hst.cellAt _ (by omega)]; rfl, by rw [hst.cellAt _ (by omega)]; rfl⟩, ⟨sa, scap, rfl, (hps.below hb (Nat.le_refl _)).wide hb.size⟩, sv_own hr1, sv_own hr2, sv_own hr3⟩, hb⟩
end Go.Proofs.Ytollihgjcmiolaa
/- Contracts: the fall that follows (the program). -/
namespace Go.Proofs.Ytollihgjcmiolaa
open Go.RowKit
set_option linter.unusedVariables false
set_option linter.unusedSimpArgs false
set_option maxHeartbeats 400000
set_option maxRecDepth 100000
theorem stay_any (w : World) : Calls Try.prog 71 #[] w fun e w' => e = .returned (.agg #[.int .i64 (-1), .int .i8 0, .int .i64 (-1)]) ∧ Below w.heap.size w w' := by
  go_enter Try.func71, Try.ntmps71
  go_wp2
  first
    | (go_ret; exact ⟨rfl, (by repeat (first | with_reducible exact Below.refl _ _ | with_reducible assumption | with_reducible apply bl_drewN | with_reducible apply bl_drew | with_reducible apply bl_alloc | (with_reducible refine bl_set ?_ (by first | (simp; done) | (simp; omega)) _) | with_reducible refine bl_trans ?_ (by with_reducible assumption)))⟩)
    | (exact bodyPost_ret (v := .agg #[.int .i64 (-1), .int .i8 0, .int .i64 (-1)]) (by simp [results, Try.results71, go_sem]) rfl ⟨rfl, (by repeat (first | with_reducible exact Below.refl _ _ | with_reducible assumption | with_reducible apply bl_drewN | with_reducible apply bl_drew | with_reducible apply bl_alloc | (with_reducible refine bl_set ?_ (by first | (simp; done) | (simp; omega)) _) | with_reducible refine bl_trans ?_ (by with_reducible assumption)))⟩)
theorem stAt_pc {w : World} {g : Nat} {l : Bd} (h : StAt w g l) {i : Nat} (hi : i < l.ps.length) : ∃ b o c, w.cell? ⟨g, 0, none⟩ = some (.slice (some ⟨b, o, none⟩) l.ps.length c) ∧ b < w.heap.size ∧ PcAt w b (o + i * 5) l.ps[i] := by
  obtain ⟨h1, v0, v1, v2, v3, ⟨c0, c1, c2, c3⟩, ⟨a, cap, rfl, p0⟩, p1, p2, p3⟩ := h
  obtain ⟨b, o, rfl, hb, hat⟩ := pcs_get p0 hi
  exact ⟨b, o, cap, c0, hb, hat⟩
theorem stAt_can {w : World} {g : Nat} {l : Bd} (h : StAt w g l) {i : Nat} (hi : i < l.ps.length) : ∃ b o c, w.cell? ⟨g, 1, none⟩ = some (.slice (some ⟨b, o, none⟩) l.ps.length c) ∧ b < w.heap.size ∧ w.cell? ⟨b, o + i, none⟩ = some (.int .u8 (canV l.ps[i])) := by
  obtain ⟨h1, v0, v1, v2, v3, ⟨c0, c1, c2, c3⟩, p0, ⟨a, cap, rfl, p1⟩, p2, p3⟩ := h
  obtain ⟨b, o, rfl, hb, hat⟩ := SlAt.get canC_len (by omega) p1 hi
  refine ⟨b, o, cap, c1, hb, ?_⟩
  have := hat 0 _ rfl
  rwa [Nat.mul_one, Nat.add_zero] at this
theorem stAt_hit {w : World} {g : Nat} {l : Bd} (h : StAt w g l) {i : Nat} (hi : i < l.ps.length) : ∃ b o c, w.cell? ⟨g, 2, none⟩ = some (.slice (some ⟨b, o, none⟩) l.ps.length c) ∧ b < w.heap.size ∧ ∀ s : Nat, s < 4 → w.cell? ⟨b, o + i * 4 + s, none⟩ = some (.int .u8 (hv0 l.ps[i] s)) := by
  obtain ⟨h1, v0, v1, v2, v3, ⟨c0, c1, c2, c3⟩, p0, p1, ⟨a, cap, rfl, p2⟩, p3⟩ := h
  obtain ⟨b, o, rfl, hb, hat⟩ := SlAt.get hitC_len (by omega) p2 hi
  refine ⟨b, o, cap, c2, hb, fun s hs => hat s _ ?_⟩
  have : s = 0 ∨ s = 1 ∨ s = 2 ∨ s = 3 := by omega
  rcases this with rfl | rfl | rfl | rfl <;> rfl
theorem stAt_bes {w : World} {g : Nat} {l : Bd} (h : StAt w g l) {i : Nat} (hi : i < l.ps.length) : ∃ b o c, w.cell? ⟨g, 3, none⟩ = some (.slice (some ⟨b, o, none⟩) l.ps.length c) ∧ b < w.heap.size ∧ ∀ s : Nat, s < 4 → w.cell? ⟨b, o + i * 4 + s, none⟩ = some (.int .i64 (besV l.ps l.ps[i] s)) := by
  obtain ⟨h1, v0, v1, v2, v3, ⟨c0, c1, c2, c3⟩, p0, p1, p2, ⟨a, cap, rfl, p3⟩⟩ := h
  obtain ⟨b, o, rfl, hb, hat⟩ := SlAt.get (besC_len l.ps) (by omega) p3 hi
  refine ⟨b, o, cap, c3, hb, fun s hs => hat s _ ?_⟩
  have : s = 0 ∨ s = 1 ∨ s = 2 ∨ s = 3 := by omega
  rcases this with rfl | rfl | rfl | rfl <;> rfl
theorem follows1_any (g : Nat) (l : Bd) (i : Nat) (hi : i < l.ps.length) (bs bi : Nat) (p : Hi) (hp : p.ok) (w : World) (hst : StAt w g l) (hbs : bs < w.heap.size) (hbi : bi < w.heap.size) (hcs : w.cell? ⟨bs, 0, none⟩ = some (.pointer (some ⟨g, 0, none⟩))) (hci : w.cell? ⟨bi, 0, none⟩ = some (.int .i64 i)) (hn : l.ps.length ≤ 10000) :
    Calls Try.prog 70 #[p.val, .pointer (some ⟨bs, 0, none⟩), .pointer (some ⟨bi, 0, none⟩)] w fun e w' => e = .returned (.bool (!canH l.ps i (p.t, p.s, p.b))) ∧ Below w.heap.size w w' := by
  obtain ⟨-, -, ⟨hs1, hs2⟩, -⟩ := hp
  have hgl := hst.1
  obtain ⟨b, o, c, x1, x2, x3⟩ := stAt_can hst hi
  have hbd := canV_bd l.ps[i]
  have HV := Lib.hid (show canH l.ps i (p.t, p.s, p.b) = decide (canV l.ps[i] / 2 ^ p.s.toNat % 2 = 1) by
    rw [canV_has l.ps[i] p.s hs1 hs2]; unfold canH; rw [getD_pc l.ps i hi])
  generalize canH l.ps i (p.t, p.s, p.b) = r at HV ⊢
  generalize canV l.ps[i] = cv at x3 hbd HV
  obtain ⟨n1, n2⟩ := hbd
  have n3 : bs ≠ w.heap.size := by omega
  have n4 : bi ≠ w.heap.size := by omega
  have n5 : g ≠ w.heap.size := by omega
  have n6 : b ≠ w.heap.size := by omega
  have HH := Lib.hid (fun w' => hasSide_any cv p.s w' hs1 hs2 n1 n2)
  have hil : (i : Int) < l.ps.length := by omega
  go_enter Try.func70, Try.ntmps70
  go_wp2
  (refine wp_region_ext (by kernel_rfl) (by kernel_rfl) ?_; have hX := @ext_cell; (repeat (go_big_quiet_step ((go_at_call 67; exact ext_same (HH.out _))))); refine wpQuiet_nil ?_; clear hX; intro wx hw'; obtain ⟨⟨wx, hbx⟩, rfl⟩ := hw'; obtain ⟨hcx, hfx⟩ := bcell hbx)
  go_wp2
  go_ret
  exact ⟨by rw [HV.out]; rfl, (by repeat (first | with_reducible exact Below.refl _ _ | with_reducible assumption | with_reducible apply bl_drewN | with_reducible apply bl_drew | with_reducible apply bl_alloc | (with_reducible refine bl_set ?_ (by first | (simp; done) | (simp; omega)) _) | with_reducible refine bl_trans ?_ (by with_reducible assumption)))⟩
theorem eg_follows1 (args : Array Value) (w : World) : (callFunc 70 args).run Try.prog w = .ok (.enter 70 args) w := by kernel_rfl
end Go.Proofs.Ytollihgjcmiolaa
/- Contracts: the fall that follows (the program), 2. -/
namespace Go.Proofs.Ytollihgjcmiolaa
open Go.RowKit
set_option linter.unusedVariables false
set_option linter.unusedSimpArgs false
set_option maxHeartbeats 400000
set_option maxRecDepth 100000
theorem sl_newB (w : World) (cs : Array Value) (T : TypeId) (g : Nat) (hg : g = w.heap.size) : SlAt (g + 1) (w.alloc (.cells cs T)) (some ⟨g, 0, none⟩) cs.toList := by
  subst hg
  exact sl_new w cs T
def mkH (i : Nat) (x : Ht) : Hi := ⟨x.1, i, x.2.1, x.2.2⟩
theorem mkH_ok (i : Nat) (hi : i ≤ 1000) (x : Ht) (h1 : 0 ≤ x.1 ∧ x.1 ≤ 2000000) (h2 : 0 ≤ x.2.1 ∧ x.2.1 ≤ 3) (h3 : -1 ≤ x.2.2 ∧ x.2.2 ≤ 1000) : (mkH i x).ok := by
  unfold Hi.ok mkH; simp only; omega
/-- What is asked of hits on the piece i. -/
def ht3 (x : Ht) : Prop := (0 ≤ x.1 ∧ x.1 ≤ 2000000) ∧ (0 ≤ x.2.1 ∧ x.2.1 ≤ 3) ∧ (-1 ≤ x.2.2 ∧ x.2.2 ≤ 1000)
theorem hoV_mk (i : Nat) (x y : Ht) : hoV (mkH i x) (mkH i y) < 0 ↔ ltH x y = true := by
  rw [hoV_lt, ltH_iff]; simp only [mkH, Int.lt_irrefl, false_or, true_and]
theorem due_min (ps : List Pc) (pl : List Pu) (fs : List Fa) (i : Nat) (m : Hi) (h1 : m ∈ (dueC ps pl fs i).map (mkH i)) (h2 : ∀ y ∈ (dueC ps pl fs i).map (mkH i), 0 ≤ hoV y m) : due ps pl fs i = ⟨m.t, m.s, m.b⟩ := by
  rw [List.mem_map] at h1
  obtain ⟨x, hx, rfl⟩ := h1
  have hL : Least (fun z => z ∈ dueC ps pl fs i) (some x) := ⟨hx, fun y hy => by
    have := h2 (mkH i y) (List.mem_map.2 ⟨y, hy, rfl⟩)
    rw [Bool.eq_false_iff]
    intro h
    rw [← hoV_mk i] at h
    omega⟩
  unfold due
  rw [least_one (least_best _) hL]
  rfl
theorem filter_mk (i : Nat) (q : Ht → Bool) (xs : List Ht) : (xs.map (mkH i)).filter (fun p => !(!q (p.t, p.s, p.b))) = (xs.filter q).map (mkH i) := by
  rw [List.filter_map]
  congr 1
  apply List.filter_congr
  intro x _
  simp [mkH]
theorem candP_ht3 (ps : List Pc) (pl : List Pu) (i : Nat) (h : pl.all plainPu = true) : ∀ x ∈ candP ps pl i, ht3 x := by
  intro x hx
  unfold candP at hx
  rw [List.mem_filterMap] at hx
  obtain ⟨p, hp, hx⟩ := hx
  rw [List.all_eq_true] at h
  have h1 := h p hp
  unfold plainPu inB at h1
  simp only [Bool.and_eq_true, decide_eq_true_eq] at h1
  split at hx
  · simp only [Option.some.injEq] at hx
    rw [← hx]; unfold ht3; simp only; omega
  · cases hx
theorem candP_len (ps : List Pc) (pl : List Pu) (i : Nat) : (candP ps pl i).length ≤ pl.length := by
  unfold candP; exact List.length_filterMap_le _ _
theorem candN1_far (ps : List Pc) (fs : List Fa) (i : Nat) (s : Int) (k : Nat) (hi : i < ps.length) (hf : fs.length ≤ k) (he : fnd (nxt ps[i].at_ s) ps = k) : candN1 ps fs i s = none := by
  unfold candN1
  simp only
  rw [getD_pc ps i hi, he, if_neg (fun hh => by omega)]
theorem wrap8_side (n : Int) (h0 : 0 ≤ n) (h3 : n ≤ 3) : IntKind.i8.wrap n = n := by
  have : n = 0 ∨ n = 1 ∨ n = 2 ∨ n = 3 := by omega
  rcases this with rfl | rfl | rfl | rfl <;> rfl
theorem candN_ht3 (l : Bd) (hv : vBd l = true) (fs : List Fa) (hfs : fs.all okFall = true) (i m : Nat) (hm : m ≤ 4) : ∀ x ∈ candN l.ps fs i m, ht3 x := by
  intro x hx
  unfold candN at hx
  rw [List.mem_filterMap] at hx
  obtain ⟨s, hs, hx⟩ := hx
  rw [List.mem_range] at hs
  unfold candN1 at hx
  simp only at hx
  split at hx
  · rename_i h9
    obtain ⟨h1, h2, h3, -⟩ := h9
    have hk := fnd_lt _ _ h1
    have hkf : (fnd (nxt (l.ps.getD i default).at_ (s : Int)) l.ps).toNat < fs.length := by omega
    obtain ⟨-, -, -, -, n5, n6⟩ := vBd_piece2 l hv _ hk
    obtain ⟨-, -, -, -, c5⟩ := vBd_bounds l hv
    rw [getD_fa fs _ hkf] at hx h3
    rw [getD_pc l.ps _ hk] at hx
    rw [List.all_eq_true] at hfs
    have h4 := hfs _ (List.getElem_mem hkf)
    unfold okFall inB at h4
    simp only [Bool.and_eq_true, decide_eq_true_eq] at h4
    simp only [Option.some.injEq] at hx
    rw [← hx]
    unfold ht3
    simp only
    omega
  · cases hx
theorem run_idx4 (bv : Nat → Int) (m : Nat) (hm : m < 4) : ∀ w' : World, (Instr.index 112 (.agg #[.int .i64 (bv 0), .int .i64 (bv 1), .int .i64 (bv 2), .int .i64 (bv 3)]) (.int .i64 (m : Int))).run Try.prog w' = .ok (.int .i64 (bv m)) w' := by
  have h9 : m = 0 ∨ m = 1 ∨ m = 2 ∨ m = 3 := by omega
  rcases h9 with rfl | rfl | rfl | rfl
  · exact fun w' => by kernel_rfl
  · exact fun w' => by kernel_rfl
  · exact fun w' => by kernel_rfl
  · exact fun w' => by kernel_rfl
set_option maxHeartbeats 3200000 in
theorem follows_any {B : Nat} (g : Nat) (l : Bd) (i : Nat) (a2 : Option Addr) (cap2 : Nat) (fs : List Fa) (a3 : Option Addr) (cap3 : Nat) (pl : List Pu) (w : World) (hst : StAt w g l) (hv : vBd l = true) (hi : i < l.ps.length) (h2 : SlAt B w a2 (flat Fa.cells fs)) (hfs : fs.all okFall = true) (hn2 : fs.length ≤ 9000000)
    (h3 : SlAt B w a3 (flat Hi.cells (pl.map (hitOf l)))) (hpl : pl.all plainPu = true) (hn : pl.length ≤ 20) (hB : B ≤ w.heap.size) :
    Calls Try.prog 40 #[.pointer (some ⟨g, 0, none⟩), .int .i64 i, .slice a2 fs.length cap2, .slice a3 pl.length cap3] w fun e w' => e = .returned (due l.ps pl fs i).val ∧ Below w.heap.size w w' := by
  have hgl := hst.1
  obtain ⟨-, -, -, -, c5⟩ := vBd_bounds l hv
  have hnd : (l.ps.map Pc.at_).Nodup := by
    unfold vBd at hv
    simp only [Bool.and_eq_true, decide_eq_true_eq] at hv
    exact hv.2
  have HST := Lib.hid hst
  have HPL := Lib.hid hpl
  have HFI := Lib.hid (fun c => fnd_iff l.ps hnd c i)
  have HP3 := Lib.hid (candP_ht3 l.ps pl i hpl)
  clear hst hpl hnd
  obtain ⟨i0, hi0, hiz0, hiz1, hiz2⟩ := info_parts Try.infoHit
  have hgi := getD_pc l.ps i hi
  go_enter Try.func40, Try.ntmps40
  go_upto_region 2 with fail
  have h6 := heap_alloc_new w (.cells #[.pointer (some ⟨g, 0, none⟩)] 74)
  have h6a := Below.heap_alloc (w.alloc (.cells #[.pointer (some ⟨g, 0, none⟩)] 74)) (.cells #[.int .i64 i] 3) w.heap.size (by simp)
  rw [h6] at h6a
  have h6b := Below.heap_alloc ((w.alloc (.cells #[.pointer (some ⟨g, 0, none⟩)] 74)).alloc (.cells #[.int .i64 i] 3)) (.cells #[.int .i64 0, .int .i8 0, .int .i64 0] 66) w.heap.size (by simp; omega)
  rw [h6a] at h6b
  have h7 := heap_alloc_new (w.alloc (.cells #[.pointer (some ⟨g, 0, none⟩)] 74)) (.cells #[.int .i64 i] 3)
  have h7a := Below.heap_alloc ((w.alloc (.cells #[.pointer (some ⟨g, 0, none⟩)] 74)).alloc (.cells #[.int .i64 i] 3)) (.cells #[.int .i64 0, .int .i8 0, .int .i64 0] 66) (w.heap.size + 1) (by simp)
  simp only [World.size_alloc] at h7
  rw [h7] at h7a
  have o8 := own_newAt ((w.alloc (.cells #[.pointer (some ⟨g, 0, none⟩)] 74)).alloc (.cells #[.int .i64 i] 3)) #[.int .i64 0, .int .i8 0, .int .i64 0] 66 3 (w.heap.size + 2) (w.heap.size + 2) (by simp) (by omega) rfl _ rfl
  have hb3 : Below w.heap.size w (((w.alloc (.cells #[.pointer (some ⟨g, 0, none⟩)] 74)).alloc (.cells #[.int .i64 i] 3)).alloc (.cells #[.int .i64 0, .int .i8 0, .int .i64 0] 66)) := (by repeat (first | with_reducible exact Below.refl _ _ | with_reducible assumption | with_reducible apply bl_drewN | with_reducible apply bl_drew | with_reducible apply bl_alloc | (with_reducible refine bl_set ?_ (by first | (simp; done) | (simp; omega)) _) | with_reducible refine bl_trans ?_ (by with_reducible assumption)))
  have hz3 : (((w.alloc (.cells #[.pointer (some ⟨g, 0, none⟩)] 74)).alloc (.cells #[.int .i64 i] 3)).alloc (.cells #[.int .i64 0, .int .i8 0, .int .i64 0] 66)).heap.size = w.heap.size + 3 := by simp
  obtain ⟨X, hX⟩ : ∃ X, X = ((w.alloc (.cells #[.pointer (some ⟨g, 0, none⟩)] 74)).alloc (.cells #[.int .i64 i] 3)).alloc (.cells #[.int .i64 0, .int .i8 0, .int .i64 0] 66) := ⟨_, rfl⟩
  rw [← hX] at h6b h7a o8 hb3 hz3 ⊢
  clear h6 h6a h7 hX
  have x4 : X.cell? ⟨w.heap.size, 0, none⟩ = some (.pointer (some ⟨g, 0, none⟩)) := by rw [cell_of_row _ _ _ _ _ _ h6b]; rfl
  have x5 : X.cell? ⟨w.heap.size + 1, 0, none⟩ = some (.int .i64 i) := by rw [cell_of_row _ _ _ _ _ _ h7a]; rfl
  clear h6b h7a
  have HB3 := Lib.hid hb3
  have O8 := Lib.hid o8
  clear o8 hb3
  have hown0 := World.ownsRow_made (e := 89) (size := 4) X #[] 0 (Nat.le_refl _) (by simp [maxLen]) rfl
  have hbX : Below X.heap.size X (X.alloc (.cells #[] 89)) := bl_alloc (Below.refl _ _)
  rw [hz3] at hown0 hbX
  obtain ⟨bi, hbi⟩ : ∃ bi, bi = w.heap.size + 1 := ⟨_, rfl⟩
  obtain ⟨br, hbr⟩ : ∃ br, br = w.heap.size + 2 := ⟨_, rfl⟩
  obtain ⟨bs, hbs⟩ : ∃ bs, bs = w.heap.size := ⟨_, rfl⟩
  obtain ⟨bl, hbl⟩ : ∃ bl, bl = w.heap.size + 3 := ⟨_, rfl⟩
  have hws1 : w.heap.size ≤ bs := by omega
  have hws2 : bs ≤ w.heap.size := by omega
  rw [← hbl] at hown0 hbX hz3
  rw [← hbr] at O8
  rw [← hbi] at x5
  rw [← hbs] at x4
  have g0 : g < bs := by omega
  have hBs : B ≤ bs := by omega
  have hl5 : bs < bi := by omega
  have hl6 : bi < br := by omega
  have hl7 : br < bl := by omega
  rw [← hbi, show bi + 1 = br by omega, show br + 1 = bl by omega, ← hbs]
  have hzl : X.heap.size ≤ bl := by omega
  have hzm : bl ≤ X.heap.size := by omega
  clear hbi hbr hbs hbl hz3
  go_wp2
  go_loopw [9, 18] (fun v ix wr => ∃ k n : Nat, k ≤ pl.length ∧ n ≤ k ∧ ix = .int .i64 k ∧ wr.ownsRow bl 89 4 v n (flat Hi.cells ((candP l.ps (pl.take k) i).map (mkH i))) ∧ Below bl X wr) (fun _ ix _ => pl.length - (intOf ix).toNat)
  case atStart => exact ⟨0, 0, by omega, by omega, rfl, hown0, hbX⟩
  case round =>
    clear hown0 hbX
    obtain ⟨k, n, hk, hnk, rfl, hown, hb⟩ := hrel
    have hzb := Nat.le_trans hzm hb.size
    by_cases hlt : k < pl.length
    · have hlt3 : k < (pl.map (hitOf l)).length := by simpa using hlt
      obtain ⟨b, off, rfl, hbl2, hat⟩ := his_get h3 hlt3
      have hwX : Below w.heap.size w wr := HB3.out.trans (hb.mono (by omega))
      have hbw : b < w.heap.size := by omega
      have hbr : b < wr.heap.size := by have := hwX.size; omega
      rw [List.getElem_map] at hat
      have htk : pl.take (k + 1) = pl.take k ++ [pl[k]] := List.take_succ_eq_append_getElem hlt
      have HCS := Lib.hid (show candP l.ps (pl.take (k + 1)) i = _ from by rw [htk, candP_snoc])
      have hfi := HFI.out ⟨pl[k].x, pl[k].y⟩
      rw [hgi] at HCS
      obtain ⟨H, hH⟩ : ∃ H, H = hitOf l pl[k] := ⟨_, rfl⟩
      have hHt : H.t = pl[k].t ∧ H.p = fnd ⟨pl[k].x, pl[k].y⟩ l.ps ∧ H.s = pl[k].s ∧ H.b = -1 := by rw [hH]; exact ⟨rfl, rfl, rfl, rfl⟩
      rw [← hH] at hat
      clear hH
      unfold HiAt at hat
      have r0 : wr.cell? ⟨b, off + k * 4, none⟩ = some (.int .i64 H.t) := by rw [hwX.cell (p := ⟨_, _, none⟩) hbw]; exact hat.1
      have r1 : wr.cell? ⟨b, off + k * 4 + 1, none⟩ = some (.int .i64 H.p) := by rw [hwX.cell (p := ⟨_, _, none⟩) hbw]; exact hat.2.1
      have r2 : wr.cell? ⟨b, off + k * 4 + 2, none⟩ = some (.int .i64 H.s) := by rw [hwX.cell (p := ⟨_, _, none⟩) hbw]; exact hat.2.2.1
      have r3 : wr.cell? ⟨b, off + k * 4 + 3, none⟩ = some (.int .i64 H.b) := by rw [hwX.cell (p := ⟨_, _, none⟩) hbw]; exact hat.2.2.2
      have y5 : wr.cell? ⟨bi, 0, none⟩ = some (.int .i64 i) := by rw [hb.cell (p := ⟨_, _, none⟩) (show bi < bl by omega)]; exact x5
      have hlt5 : bi < wr.heap.size := by omega
      have y5a : (wr.alloc (.cells #[.int .i64 H.t, .int .i64 H.p, .int .i64 H.s, .int .i64 H.b] 89)).cell? ⟨bi, 0, none⟩ = some (.int .i64 i) := by rw [cell_alloc _ _ _ _ hlt5]; exact y5
      clear hat
      rcases dec_cases (H.p = (i : Int)) with ⟨g1, g1'⟩ | ⟨g1, g1'⟩
      · have hce : (⟨pl[k].x, pl[k].y⟩ : Ce) = l.ps[i].at_ := by
          obtain ⟨_, h9⟩ := hfi.1 (by rw [← hHt.2.1]; exact g1')
          exact h9.symm
        rw [if_pos hce] at HCS
        have HH : Hid (H = mkH i (pl[k].t, pl[k].s, -1)) := Lib.hid (by
          obtain ⟨e1, e2, e3, e4⟩ := hHt
          cases H
          simp only at e1 e2 e3 e4 g1'
          unfold mkH
          rw [e1, g1', e3, e4])
        have g1b : (H.p == (i : Int)) = true := by simpa using g1'
        clear hce hfi hHt g1' g1
        obtain ⟨av, capv, hve, -, -, -⟩ := own_at hown
        subst hve
        have HOWN := Lib.hid hown
        clear hown
        go_wp2_with (at_builtin; refine wpList_append_sl _ rfl _ _ 76 rfl bl 89 i0 (.agg #[.int .i64 0, .int .i64 0, .int .i64 0, .int .i64 0]) 4 32 Try.underlying76 hi0 hiz0 hiz1 hiz2 rfl (by decide) _ _ _ rfl (own_below HOWN.out (bl_alloc (bl_alloc (Below.refl _ _))) (Nat.le_refl _)) (some ⟨_, 0, none⟩) 1 1 (Hi.cells H) rfl (sl_newB _ #[.int .i64 H.t, .int .i64 H.p, .int .i64 H.s, .int .i64 H.b] _ _ (by simp)) rfl (Hi.one H) (by unfold maxLen; omega) (by omega) (by simp; omega) ?_; intro v3 w3 hown3 hgrow)
        have hb3' : Below bl X w3 := by
          have h9 : Below bl X ((wr.alloc (.cells #[.int .i64 H.t, .int .i64 H.p, .int .i64 H.s, .int .i64 H.b] 89)).alloc (.cells #[.int .i64 H.t, .int .i64 H.p, .int .i64 H.s, .int .i64 H.b] 89)) := (hb.alloc hzb _).alloc (by simp; omega) _
          exact h9.grown hgrow (by simp; omega) (fun q hq => (HOWN.out.lt q hq).1)
        go_roundw
        case rel =>
          refine ⟨k + 1, n + 1, by omega, by omega, by go_num, ?_, hb3'⟩
          rw [HCS.out, List.map_append, flat_append]
          rw [HH.out] at hown3
          exact hown3
        case measure => simp [intOf]; omega
      · have hce : ¬ (⟨pl[k].x, pl[k].y⟩ : Ce) = l.ps[i].at_ := by
          intro h9
          exact g1' (by rw [hHt.2.1]; exact hfi.2 ⟨hi, h9.symm⟩)
        rw [if_neg hce, List.append_nil] at HCS
        have g1b : (H.p == (i : Int)) = false := by simpa using g1'
        clear hce hfi hHt g1 g1'
        have HOWN := Lib.hid hown
        clear hown
        go_wp2
        have hb3' := hb.alloc hzb (.cells #[.int .i64 H.t, .int .i64 H.p, .int .i64 H.s, .int .i64 H.b] 89)
        have hown3 := own_below HOWN.out (bl_alloc (o := .cells #[.int .i64 H.t, .int .i64 H.p, .int .i64 H.s, .int .i64 H.b] 89) (Below.refl _ _)) (Nat.le_refl _)
        go_roundw
        case rel => exact ⟨k + 1, n, by omega, by omega, by go_num, by rw [HCS.out]; exact hown3, hb3'⟩
        case measure => simp [intOf]; omega
    · have hkn : k = pl.length := by omega
      subst hkn
      rw [List.take_length] at hown
      have hn20 : n ≤ 20 := by omega
      have hwX : Below w.heap.size w wr := HB3.out.trans (hb.mono (by omega))
      have hst := HST.out.step hwX
      have y4 : wr.cell? ⟨bs, 0, none⟩ = some (.pointer (some ⟨g, 0, none⟩)) := by rw [hb.cell (p := ⟨_, _, none⟩) (show bs < bl by omega)]; exact x4
      have y5 : wr.cell? ⟨bi, 0, none⟩ = some (.int .i64 i) := by rw [hb.cell (p := ⟨_, _, none⟩) (show bi < bl by omega)]; exact x5
      obtain ⟨bb, ob, cb, z1, z2, z3⟩ := stAt_bes hst hi
      obtain ⟨bv, hbv⟩ : ∃ bv : Nat → Int, ∀ s : Nat, besV l.ps l.ps[i] s = bv s := ⟨fun s => besV l.ps l.ps[i] s, fun _ => rfl⟩
      have HBV := Lib.hid hbv
      have q0 := z3 0 (by omega)
      have q1 := z3 1 (by omega)
      have q2 := z3 2 (by omega)
      have q3 := z3 3 (by omega)
      rw [hbv] at q0 q1 q2 q3
      rw [Nat.add_zero] at q0
      clear hbv z3
      have b1 : bs < wr.heap.size := by omega
      have b2 : bi < wr.heap.size := by omega
      have b3 : g < wr.heap.size := by omega
      have hil : (i : Int) < l.ps.length := by omega
      obtain ⟨av, capv, hve, -, -, -⟩ := own_at hown
      subst hve
      have HOWN := Lib.hid hown
      clear hown hst
      obtain ⟨W, hW⟩ : ∃ W, W = wr := ⟨_, rfl⟩
      subst hW
      go_wp2
      (refine wp_region_ext (by kernel_rfl) (by kernel_rfl) ?_; have hX := @ext_cell; (repeat (go_big_quiet_step (fail))); refine wpQuiet_nil ?_; clear hX; intro wx hw'; obtain ⟨⟨wx, hbx⟩, rfl⟩ := hw'; obtain ⟨hcx, hfx⟩ := bcell hbx)
      have hXx : Below bl X wx := hb.trans (hbx.mono hzb)
      have hown1 := own_below HOWN.out hbx (Nat.le_refl _)
      clear hcx hfx q0 q1 q2 q3 y4 y5 z1
      have HNS := Lib.hid (fun m => candN_succ l.ps fs i m)
      go_wp2
      go_loopw [9, 38] (fun v ix wr => ∃ m n : Nat, m ≤ 4 ∧ n ≤ 20 + m ∧ ix = .int .i64 m ∧ wr.ownsRow bl 89 4 v n (flat Hi.cells ((candP l.ps pl i ++ candN l.ps fs i m).map (mkH i))) ∧ Below bl X wr) (fun _ ix _ => 4 - (intOf ix).toNat)
      case atStart => exact ⟨0, n, by omega, by omega, rfl, by rw [show candN l.ps fs i 0 = [] from rfl, List.append_nil]; exact hown1, hXx⟩
      case round =>
        clear hown1 hXx hb hzb hwX b1 b2 b3 hbx HOWN z2 hn20 hk hnk
        obtain ⟨m, n, hm, hnm, rfl, hown, hb⟩ := hrel
        have hzb := Nat.le_trans hzm hb.size
        by_cases hlm : m < 4
        · have hwX : Below w.heap.size w wr := HB3.out.trans (hb.mono (by omega))
          have hst := HST.out.step hwX
          have y4 : wr.cell? ⟨bs, 0, none⟩ = some (.pointer (some ⟨g, 0, none⟩)) := by rw [hb.cell (p := ⟨_, _, none⟩) (show bs < bl by omega)]; exact x4
          have y5 : wr.cell? ⟨bi, 0, none⟩ = some (.int .i64 i) := by rw [hb.cell (p := ⟨_, _, none⟩) (show bi < bl by omega)]; exact x5
          have b1 : bs < wr.heap.size := by omega
          have b2 : bi < wr.heap.size := by omega
          have b3 : g < wr.heap.size := by omega
          have hix := run_idx4 bv m hlm
          have HS := Lib.hid (HNS.out m)
          have hfn : fnd (nxt l.ps[i].at_ m) l.ps = bv m := HBV.out m
          have HNO := Lib.hid (fun he => candN1_no l.ps fs i m hi he)
          have HFAR := Lib.hid (fun k hk he => candN1_far l.ps fs i m k hi hk he)
          have HAT := Lib.hid (fun k hk hf he => candN1_at l.ps fs i m k hi hk hf he)
          have HLT := Lib.hid (fnd_lt (nxt l.ps[i].at_ m) l.ps)
          rw [hfn] at HNO HFAR HAT HLT
          clear hfn
          obtain ⟨av, capv, hve, -, -, -⟩ := own_at hown
          subst hve
          have HOWN := Lib.hid hown
          clear hown
          obtain ⟨kk, hkk⟩ : ∃ kk, kk = bv m := ⟨_, rfl⟩
          rw [← hkk] at hix HNO HFAR HAT HLT
          clear hkk
          have hnone : Hid (candN1 l.ps fs i (m : Int) = none → candP l.ps pl i ++ candN l.ps fs i (m + 1) = candP l.ps pl i ++ candN l.ps fs i m) := Lib.hid (fun h9 => by rw [HS.out, h9]; simp)
          by_cases hk0 : kk < 0
          · have HN := Lib.hid (hnone.out (HNO.out hk0))
            go_wp2
            (refine wp_region_ext (by kernel_rfl) (by kernel_rfl) ?_; have hX := @ext_cell; (repeat (go_big_quiet_step (fail))); refine wpQuiet_nil ?_; clear hX; intro wx hw'; obtain ⟨⟨wx, hbx⟩, rfl⟩ := hw'; obtain ⟨hcx, hfx⟩ := bcell hbx)
            have hXy : Below bl X wx := hb.trans (hbx.mono hzb)
            have hown2 := own_below HOWN.out hbx (Nat.le_refl _)
            go_wp2
            go_roundw
            case rel => exact ⟨m + 1, n, by omega, by omega, by go_num, by rw [HN.out]; exact hown2, hXy⟩
            case measure => simp [intOf]; omega
          · obtain ⟨kn, hkn⟩ : ∃ kn : Nat, kk = (kn : Int) := ⟨kk.toNat, by omega⟩
            subst hkn
            have hknl : kn < l.ps.length := by have := HLT.out (by omega); simpa using this
            have hd0 : decide ((kn : Int) < 0) = false := decide_eq_false (by omega)
            by_cases hkf : fs.length ≤ kn
            · have hd1 : decide (fs.length ≤ kn) = true := decide_eq_true hkf
              have HN := Lib.hid (hnone.out (HFAR.out kn hkf rfl))
              go_wp2
              (refine wp_region_ext (by kernel_rfl) (by kernel_rfl) ?_; have hX := @ext_cell; (repeat (go_big_quiet_step (fail))); refine wpQuiet_nil ?_; clear hX; intro wx hw'; obtain ⟨⟨wx, hbx⟩, rfl⟩ := hw'; obtain ⟨hcx, hfx⟩ := bcell hbx)
              have hXy : Below bl X wx := hb.trans (hbx.mono hzb)
              have hown2 := own_below HOWN.out hbx (Nat.le_refl _)
              go_wp2
              go_roundw
              case rel => exact ⟨m + 1, n, by omega, by omega, by go_num, by rw [HN.out]; exact hown2, hXy⟩
              case measure => simp [intOf]; omega
            · have hknf : kn < fs.length := by omega
              have hd1 : decide (fs.length ≤ kn) = false := decide_eq_false hkf
              have hAT := HAT.out kn hknl hknf rfl
              obtain ⟨bf, offf, hbf0, hbf, hatf⟩ := fas_get h2 hknf
              cases hbf0
              have hokf : okFall fs[kn] = true := by rw [List.all_eq_true] at hfs; exact hfs _ (List.getElem_mem hknf)
              unfold okFall inB at hokf
              simp only [Bool.and_eq_true, decide_eq_true_eq] at hokf
              obtain ⟨⟨f1, f2⟩, f3, f4⟩ := hokf
              obtain ⟨fn, hfn⟩ : ∃ fn : Nat, fs[kn].f = (fn : Int) := ⟨fs[kn].f.toNat, by omega⟩
              have hfn4 : fn < 4 := by omega
              have hbfw : bf < w.heap.size := by omega
              have hbfr : bf < wr.heap.size := by have := hwX.size; omega
              unfold FaAt at hatf
              have r0 : wr.cell? ⟨bf, offf + kn * 3, none⟩ = some (.int .i64 fs[kn].t) := by rw [hwX.cell (p := ⟨_, _, none⟩) hbfw]; exact hatf.1
              have r1 : wr.cell? ⟨bf, offf + kn * 3 + 1, none⟩ = some (.int .i8 (fn : Int)) := by rw [hwX.cell (p := ⟨_, _, none⟩) hbfw, ← hfn]; exact hatf.2.1
              have hkil : (kn : Int) < fs.length := by omega
              have hkpl : (kn : Int) < l.ps.length := by omega
              rw [hfn] at hAT
              obtain ⟨ft, hft⟩ : ∃ ft, ft = fs[kn].t := ⟨_, rfl⟩
              rw [← hft] at r0 hAT f1 f2
              clear hft hfn hatf f3 f4 hkf
              by_cases ht : ft = -1
              · rw [if_neg (fun h9 => h9.1 ht)] at hAT
                have HN := Lib.hid (hnone.out hAT)
                subst ht
                clear hAT
                go_wp2
                (refine wp_region_ext (by kernel_rfl) (by kernel_rfl) ?_; have hX := @ext_cell; (repeat (go_big_quiet_step (fail))); refine wpQuiet_nil ?_; clear hX; intro wx hw'; obtain ⟨⟨wx, hbx⟩, rfl⟩ := hw'; obtain ⟨hcx, hfx⟩ := bcell hbx)
                have hXy : Below bl X wx := hb.trans (hbx.mono hzb)
                have hown2 := own_below HOWN.out hbx (Nat.le_refl _)
                go_wp2
                go_roundw
                case rel => exact ⟨m + 1, n, by omega, by omega, by go_num, by rw [HN.out]; exact hown2, hXy⟩
                case measure => simp [intOf]; omega
              · have htb : (ft == (-1 : Int)) = false := by simpa using ht
                obtain ⟨bh, oh, ch, w1', w2', w3'⟩ := stAt_hit hst hknl
                have u0 := w3' fn hfn4
                have hHV : 0 ≤ hv0 l.ps[kn] fn ∧ hv0 l.ps[kn] fn ≤ 15 := by
                  obtain ⟨n1, n2, n3, n4, n5, n6⟩ := vBd_piece2 l hv kn hknl
                  have := hitsV_le l.ps[kn].k l.ps[kn].t fn n1 n2 n3 n4 (by omega) (by omega)
                  unfold hv0; omega
                have hAT2 : candN1 l.ps fs i (m : Int) = if hv0 l.ps[kn] fn / 2 ^ (((m : Int) + 2) % 4).toNat % 2 = 1 then some (ft + l.ps[kn].d, (m : Int), (kn : Int)) else none := by
                  rw [hAT]
                  unfold hv0
                  by_cases h9 : max (hitsV l.ps[kn].k l.ps[kn].t (fn : Int)) 0 / 2 ^ (((m : Int) + 2) % 4).toNat % 2 = 1
                  · rw [if_pos h9, if_pos ⟨ht, h9⟩]
                  · rw [if_neg h9, if_neg (fun h8 => h9 h8.2)]
                clear hAT w3'
                obtain ⟨hx, hhx⟩ : ∃ hx, hx = hv0 l.ps[kn] fn := ⟨_, rfl⟩
                rw [← hhx] at u0 hHV hAT2
                clear hhx
                obtain ⟨hx0, hx15⟩ := hHV
                have HOP := Lib.hid (fun w' => opposite_any (m : Int) w' (by omega) (by omega))
                have HHA := Lib.hid (fun w' => hasSide_any hx (((m : Int) + 2) % 4) w' (by omega) (by omega) hx0 hx15)
                rcases dec_cases (hx / 2 ^ (((m : Int) + 2) % 4).toNat % 2 = 1) with ⟨g1, g1'⟩ | ⟨g1, g1'⟩
                · rw [if_pos g1'] at hAT2
                  rw [g1] at HHA
                  have HAT2 := Lib.hid hAT2
                  clear hAT2 g1 g1'
                  obtain ⟨bp, op, cp, p1, p2, hatp⟩ := stAt_pc hst hknl
                  obtain ⟨n1, n2, n3, n4, n5, n6⟩ := vBd_piece2 l hv kn hknl
                  have pd := hatp.2.2.2.2
                  obtain ⟨d, hd⟩ : ∃ d, d = l.ps[kn].d := ⟨_, rfl⟩
                  rw [← hd] at pd n5 n6 HAT2
                  clear hd hatp n1 n2 n3 n4
                  have s5 : IntKind.i64.wrap d = d := by rw [IntKind.wrap_i64]; omega
                  have s6 : IntKind.i64.wrap (ft + d) = ft + d := by rw [IntKind.wrap_i64]; omega
                  have HN : Hid ((candP l.ps pl i ++ candN l.ps fs i (m + 1)).map (mkH i) = (candP l.ps pl i ++ candN l.ps fs i m).map (mkH i) ++ [(⟨ft + d, i, m, kn⟩ : Hi)]) := Lib.hid (by
                    rw [HS.out, HAT2.out, ← List.append_assoc, List.map_append]; rfl)
                  go_wp2
                  (refine wp_region_ext (by kernel_rfl) (by kernel_rfl) ?_; have hX := @ext_cell; (repeat (go_big_quiet_step (first | (go_at_call 68; exact ext_same (HOP.out _)) | (go_at_call 67; exact ext_same (HHA.out _))))); refine wpQuiet_nil ?_; clear hX; intro wx hw'; obtain ⟨⟨wx, hbx⟩, rfl⟩ := hw'; obtain ⟨hcx, hfx⟩ := bcell hbx)
                  have hXy : Below bl X wx := hb.trans (hbx.mono hzb)
                  have hownx := own_below HOWN.out hbx (Nat.le_refl _)
                  have HOWNx := Lib.hid hownx
                  have HXy := Lib.hid hXy
                  have hzx := Nat.le_trans hzm hXy.size
                  have k0 : wx.cell? ⟨bf, offf + kn * 3, none⟩ = some (.int .i64 ft) := by rw [hbx.cell (p := ⟨_, _, none⟩) hbfr]; exact r0
                  have k1 : wx.cell? ⟨bs, 0, none⟩ = some (.pointer (some ⟨g, 0, none⟩)) := by rw [hbx.cell (p := ⟨_, _, none⟩) b1]; exact y4
                  have k2 : wx.cell? ⟨g, 0, none⟩ = some (.slice (some ⟨bp, op, none⟩) l.ps.length cp) := by rw [hbx.cell (p := ⟨_, _, none⟩) b3]; exact p1
                  have k3 : wx.cell? ⟨bp, op + kn * 5 + 4, none⟩ = some (.int .i8 d) := by rw [hbx.cell (p := ⟨_, _, none⟩) p2]; exact pd
                  have k4 : wx.cell? ⟨bi, 0, none⟩ = some (.int .i64 i) := by rw [hbx.cell (p := ⟨_, _, none⟩) b2]; exact y5
                  have hbpw : bp < bl := by
                    obtain ⟨b9, o9, c9, p1', p2', -⟩ := stAt_pc HST.out hknl
                    have e9 : wr.cell? ⟨g, 0, none⟩ = some (.slice (some ⟨b9, o9, none⟩) l.ps.length c9) := by rw [hwX.cell (p := ⟨_, _, none⟩) hgl]; exact p1'
                    rw [p1] at e9
                    simp only [Option.some.injEq, Value.slice.injEq, Addr.mk.injEq] at e9
                    omega
                  clear hcx hfx r0 r1 y4 y5 p1 pd u0 w1' hbx hownx hXy hst hwX
                  go_upto_region 12 with fail
                  go_region_held3 (fun w' => w'.cell? ⟨bf, offf + kn * 3, none⟩ = some (.int .i64 ft) ∧ w'.cell? ⟨bs, 0, none⟩ = some (.pointer (some ⟨g, 0, none⟩)) ∧ w'.cell? ⟨g, 0, none⟩ = some (.slice (some ⟨bp, op, none⟩) l.ps.length cp) ∧ w'.cell? ⟨bp, op + kn * 5 + 4, none⟩ = some (.int .i8 d) ∧ w'.cell? ⟨bi, 0, none⟩ = some (.int .i64 i)) (first | go_keep | (go_split_ands; refine ⟨?_, ?_, ?_, ?_, ?_⟩ <;> (rw [hgrow.cell_far _ (by simp; omega) (fun e => by have := (HOWNx.out.lt _ e.symm).1; simp only at this; omega)]; assumption))) (first | (refine step_append_lies _ (by rfl) _ _ _ (by rfl) bl 89 i0 _ 4 32 Try.underlying76 hi0 hiz0 hiz1 hiz2 rfl (by omega) (.slice av n capv) n (flat Hi.cells ((candP l.ps pl i ++ candN l.ps fs i m).map (mkH i))) (by rfl) (own_below HOWNx.out (by repeat (first | with_reducible exact Below.refl _ _ | with_reducible assumption | with_reducible apply bl_drewN | with_reducible apply bl_drew | with_reducible apply bl_alloc | (with_reducible refine bl_set ?_ (by first | (simp; done) | (simp; omega)) _) | with_reducible refine bl_trans ?_ (by with_reducible assumption))) (Nat.le_refl _)) ⟨wx.heap.size, 0, none⟩ 1 1 (Hi.cells ⟨ft + d, i, m, kn⟩) (by rfl) (by rfl) (World.news_of_block (cs := #[.int .i64 (ft + d), .int .i64 i, .int .i64 m, .int .i64 kn]) (t := 89) (fr := (0, 0)) (heap_alloc_new _ _)) (Hi.one _) (by omega) (by unfold maxLen; omega) (by omega) (by simp; omega) _ rfl ?_; intro gg cap3 w3 hown3 hgrow hat3 hlt3))
                  have hb3 : Below bl X w3 := (HXy.out.trans ((show Below wx.heap.size wx _ from (by repeat (first | with_reducible exact Below.refl _ _ | with_reducible assumption | with_reducible apply bl_drewN | with_reducible apply bl_drew | with_reducible apply bl_alloc | (with_reducible refine bl_set ?_ (by first | (simp; done) | (simp; omega)) _) | with_reducible refine bl_trans ?_ (by with_reducible assumption)))).mono hzx)).grown hgrow (by simp; omega) (fun q hq => (HOWNx.out.lt q hq).1)
                  go_wp2
                  go_roundw
                  case rel => exact ⟨m + 1, n + 1, by omega, by omega, by go_num, by rw [HN.out, flat_append]; exact hown3, hb3⟩
                  case measure => simp [intOf]; omega
                · rw [if_neg g1'] at hAT2
                  rw [g1] at HHA
                  have HN := Lib.hid (hnone.out hAT2)
                  clear hAT2 g1 g1'
                  go_wp2
                  (refine wp_region_ext (by kernel_rfl) (by kernel_rfl) ?_; have hX := @ext_cell; (repeat (go_big_quiet_step (first | (go_at_call 68; exact ext_same (HOP.out _)) | (go_at_call 67; exact ext_same (HHA.out _))))); refine wpQuiet_nil ?_; clear hX; intro wx hw'; obtain ⟨⟨wx, hbx⟩, rfl⟩ := hw'; obtain ⟨hcx, hfx⟩ := bcell hbx)
                  have hXy : Below bl X wx := hb.trans (hbx.mono hzb)
                  have hown2 := own_below HOWN.out hbx (Nat.le_refl _)
                  go_wp2
                  go_roundw
                  case rel => exact ⟨m + 1, n, by omega, by omega, by go_num, by rw [HN.out]; exact hown2, hXy⟩
                  case measure => simp [intOf]; omega
        · have hm4 : m = 4 := by omega
          subst hm4
          have hwX : Below w.heap.size w wr := HB3.out.trans (hb.mono (by omega))
          obtain ⟨L, hL⟩ : ∃ L, L = (candP l.ps pl i ++ candN l.ps fs i 4).map (mkH i) := ⟨_, rfl⟩
          have hokL : HisOk L := by
            intro j hj
            have hm := List.getElem_mem hj
            generalize L[j] = y at hm ⊢
            rw [hL, List.mem_map] at hm
            obtain ⟨x, hx, hxe⟩ := hm
            have h3x : ht3 x := by
              rcases List.mem_append.1 hx with hx | hx
              · exact HP3.out x hx
              · exact candN_ht3 l hv fs hfs i 4 (by omega) x hx
            rw [← hxe]
            exact mkH_ok i (by omega) x h3x.1 h3x.2.1 h3x.2.2
          have HF : Hid (L.filter (fun p => !(!canH l.ps i (p.t, p.s, p.b))) = (dueC l.ps pl fs i).map (mkH i)) := Lib.hid (by rw [hL, filter_mk]; rfl)
          rw [← hL] at hown
          have hnL : n = L.length := by
            have h9 := hown.1
            rw [flat_length Hi.len] at h9
            omega
          subst hnL
          clear hL
          have HD := Lib.hid (deleteFuncHi_any 70 #[.pointer (some ⟨bs, 0, none⟩), .pointer (some ⟨bi, 0, none⟩)] bl _ L wr hown hokL (by omega) hzb eg_follows1 (fun p => !canH l.ps i (p.t, p.s, p.b)) (fun p w1 hp hb1 => follows1_any g l i hi bs bi p hp w1 (HST.out.step (hwX.trans (hb1.mono (by omega)))) (by have := hb1.size; omega) (by have := hb1.size; omega)
            (by rw [hb1.cell (p := ⟨_, _, none⟩) (show bs < bl by omega), hb.cell (p := ⟨_, _, none⟩) (show bs < bl by omega)]; exact x4) (by rw [hb1.cell (p := ⟨_, _, none⟩) (show bi < bl by omega), hb.cell (p := ⟨_, _, none⟩) (show bi < bl by omega)]; exact x5) (by omega)))
          have hDl : ((dueC l.ps pl fs i).map (mkH i)).length ≤ L.length := by rw [← HF.out]; exact List.length_filter_le _ _
          rw [HF.out] at HD
          have HMIN := Lib.hid (due_min l.ps pl fs i)
          have HNONE : Hid ((dueC l.ps pl fs i).map (mkH i) = [] → due l.ps pl fs i = ⟨-1, 0, -1⟩) := Lib.hid (fun h9 => by
            rw [List.map_eq_nil_iff] at h9
            unfold due; rw [h9]; rfl)
          obtain ⟨av, capv, hve, -, -, -⟩ := own_at hown
          subst hve
          have HSD : Hid (∀ mm ∈ (dueC l.ps pl fs i).map (mkH i), 0 ≤ mm.s ∧ mm.s ≤ 3) := Lib.hid (by
            intro mm hmm
            rw [← HF.out, List.mem_filter] at hmm
            obtain ⟨j, hj, rfl⟩ := List.mem_iff_getElem.1 hmm.1
            exact (hokL j hj).2.2.1)
          obtain ⟨D, hD⟩ : ∃ D, D = (dueC l.ps pl fs i).map (mkH i) := ⟨_, rfl⟩
          rw [← hD] at HD HMIN HNONE hDl HSD
          clear hD HF hokL
          have O8X := Lib.hid (fun (w' : World) (h' : Below bl X w') => own_below O8.out h' hzl)
          go_wp2_with fail
          refine HD.out.mono ?_
          rintro e w2 ⟨v', rfl, hown2, hb2⟩
          have hbX2 := hb.trans hb2
          have o8 := O8X.out w2 hbX2
          have hbw2 : Below w.heap.size w w2 := HB3.out.trans (hbX2.mono (by omega))
          obtain ⟨av2, capv2, hve2, hsl2, -, hmx2⟩ := own_at hown2
          subst hve2
          clear hown hb2 HD
          by_cases hz : D = []
          · have HDV := Lib.hid (HNONE.out hz)
            subst hz
            have HSL := Lib.hid hsl2
            clear hsl2
            go_wp2_with fail
            refine (stay_any _).mono ?_
            rintro e w4 ⟨rfl, hb4⟩
            have o8b := own_below o8 hb4 (Nat.le_refl _)
            have O8b := Lib.hid o8b
            obtain ⟨⟨v0, c0⟩, f0⟩ := own_cell o8b (j := 0) (by omega)
            obtain ⟨⟨v1, c1⟩, f1⟩ := own_cell o8b (j := 1) (by omega)
            obtain ⟨⟨v2, c2⟩, f2⟩ := own_cell o8b (j := 2) (by omega)
            clear o8 o8b
            go_wp2
            have hs := own_setCells (Fa.cells ⟨-1, 0, -1⟩) (A := []) (R := Fa.cells ⟨0, 0, 0⟩) (j := 0) O8b.out rfl (Nat.le_refl _)
            obtain ⟨cur, hh, hcur⟩ := own_one2 hs
            have hbs : Below w.heap.size w (setCells w4 br 0 (Fa.cells ⟨-1, 0, -1⟩)) := bl_grown (bl_trans hbw2 hb4) (grown_setCells _ _ _ _) (fun q hq => by cases hq; omega)
            refine bodyPost_ret (v := .agg cur) (results_cell_row Try.results40 _ _ br 66 cur (0, 0) _ rfl hh Try.underlying66 rfl (by rw [hcur]; kernel_rfl)) rfl ⟨?_, hbs⟩
            rw [hcur, HDV.out]; rfl
          · have hl1 : 1 ≤ D.length := by cases D with | nil => exact absurd rfl hz | cons x xs => simp
            have hl0 : (D.length == 0) = false := by simpa using hz
            have HMF := Lib.hid (minFuncHi_any (B := w2.heap.size) av2 capv2 D w2 hsl2 (Nat.le_refl _) (by omega) hl1)
            clear hz hl1 hsl2
            go_wp2_with fail
            refine HMF.out.mono ?_
            rintro e w3 ⟨mm, rfl, hm1, hm2, hb3⟩
            have HDV := Lib.hid (HMIN.out mm hm1 hm2)
            have hms : 0 ≤ mm.s ∧ mm.s ≤ 3 := HSD.out mm hm1
            obtain ⟨ms1, ms2⟩ := hms
            have s7 := wrap8_side mm.s ms1 ms2
            have o8b := own_below o8 hb3 (Nat.le_refl _)
            have hbr3 : br < w3.heap.size := by have h9 : br < w2.heap.size := (o8.lt _ rfl).2; have := hb3.size; omega
            have O8b := Lib.hid o8b
            obtain ⟨⟨v0, c0⟩, f0⟩ := own_cell o8b (j := 0) (by omega)
            obtain ⟨⟨v1, c1⟩, f1⟩ := own_cell o8b (j := 1) (by omega)
            obtain ⟨⟨v2, c2⟩, f2⟩ := own_cell o8b (j := 2) (by omega)
            have hbw3 : Below w.heap.size w w3 := bl_trans hbw2 hb3
            have HBW3 := Lib.hid hbw3
            clear o8 o8b hm1 hm2 hbw3
            go_wp2
            have hs := own_setCells (Fa.cells ⟨mm.t, mm.s, mm.b⟩) (A := []) (R := Fa.cells ⟨0, 0, 0⟩) (j := 0) O8b.out rfl (Nat.le_refl _)
            have hs2 := own_below hs (bl_alloc (o := .cells #[.int .i64 mm.t, .int .i64 mm.p, .int .i64 mm.s, .int .i64 mm.b] 89) (Below.refl _ _)) (Nat.le_refl _)
            obtain ⟨cur, hh, hcur⟩ := own_one2 hs2
            have hbs : Below w.heap.size w ((setCells w3 br 0 (Fa.cells ⟨mm.t, mm.s, mm.b⟩)).alloc (.cells #[.int .i64 mm.t, .int .i64 mm.p, .int .i64 mm.s, .int .i64 mm.b] 89)) := bl_alloc (bl_grown HBW3.out (grown_setCells _ _ _ _) (fun q hq => by cases hq; omega))
            refine bodyPost_ret (v := .agg cur) (results_cell_row Try.results40 _ _ br 66 cur (0, 0) _ rfl hh Try.underlying66 rfl (by rw [hcur]; kernel_rfl)) rfl ⟨?_, hbs⟩
            rw [hcur, HDV.out]; rfl
end Go.Proofs.Ytollihgjcmiolaa
