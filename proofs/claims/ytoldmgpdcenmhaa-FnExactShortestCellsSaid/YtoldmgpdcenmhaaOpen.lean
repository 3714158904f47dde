/- Opening arguments: what a type of whole numbers alone, and a slice of such, reads as. -/
import Derived.Test.YtoldmgpdcenmhaaBase
import Derived.ProofKit
import Derived.OpenShut
import Derived.Deep.Slices
namespace Go.Proofs.Ytoldmgpdcenmhaa
open Go.RowKit Go.ChangeShapes Go.WideShapes Go.ChangeAt
set_option linter.unusedVariables false
set_option linter.unusedSimpArgs false

/-- Values that are whole numbers of these kinds. -/
def Fits : List IntKind → List Value → Prop
  | [], [] => True
  | k :: ks, v :: vs => (∃ n, v = .int k n ∧ (Lit.int k n).wf = true) ∧ Fits ks vs
  | _, _ => False

theorem Fits.append : ∀ {ks ls : List IntKind} {vs us : List Value}, Fits ks vs → Fits ls us → Fits (ks ++ ls) (vs ++ us)
  | [], _, [], _, _, h => h
  | k :: ks, ls, v :: vs, us, ⟨h1, h2⟩, h => ⟨h1, Fits.append h2 h⟩
  | [], _, _ :: _, _, h, _ => h.elim
  | _ :: _, _, [], _, h, _ => h.elim

theorem Fits.length : ∀ {ks : List IntKind} {vs : List Value}, Fits ks vs → vs.length = ks.length
  | [], [], _ => rfl
  | k :: ks, v :: vs, ⟨_, h⟩ => by simp [Fits.length h]
  | [], _ :: _, h => h.elim
  | _ :: _, [], h => h.elim

def kindsFs (P : Program) (g : TypeId → Option (List IntKind)) : List Field → Nat → Option (List IntKind)
  | [], _ => some []
  | f :: fs, off => if f.offset = off then (g f.type).bind fun ks => if ks.length = P.cellsOf f.type then (kindsFs P g fs (off + ks.length)).map (ks ++ ·) else none else none

/-- The kinds of the numbers of a type that holds nothing else. -/
def kinds (P : Program) : Nat → TypeId → Option (List IntKind)
  | 0, _ => none
  | n + 1, t =>
    match P.underlying t with
    | some (.int k) => some [k]
    | some (.struct fs) => (kindsFs P (kinds P n) fs.toList 0).bind fun ks => if ks.length = P.cellsOf t then some ks else none
    | some (.array m e) => (kinds P n e).bind fun ks => if ks.length = P.cellsOf e ∧ m * ks.length = P.cellsOf t then some ((List.range m).flatMap fun _ => ks) else none
    | _ => none

section
variable {H : Type} {enc : TypeId × Value → H} {P : Program} {w : World} {base : Nat} {spare : Nat → Bool} {held : Bool}

theorem fits_fields {g : TypeId → Option (List IntKind)} {m : Nat} (ih : ∀ (t : TypeId) ks, g t = some ks → ∀ (cs : List Value) x, DataW.trod enc P w base spare held m t cs = some x → Fits ks cs) (cs : List Value) :
    ∀ (fs : List Field) (off : Nat) (ks : List IntKind), kindsFs P g fs off = some ks → off + ks.length = cs.length → (∀ f ∈ fs, ∃ x, DataW.trod enc P w base spare held m f.type ((cs.drop f.offset).take (P.cellsOf f.type)) = some x) → Fits ks (cs.drop off) := by
  intro fs
  induction fs with
  | nil =>
    intro off ks h hl _
    simp only [kindsFs, Option.some.injEq] at h
    subst h
    have : cs.drop off = [] := List.drop_of_length_le (by simp at hl; omega)
    rw [this]; trivial
  | cons f fs ihf =>
    intro off ks h hl hx
    unfold kindsFs at h
    split at h
    · rename_i hoff
      subst hoff
      simp only [Option.bind_eq_some_iff] at h
      obtain ⟨k1, hk1, h⟩ := h
      split at h
      · rename_i hlen
        simp only [Option.map_eq_some_iff] at h
        obtain ⟨k2, hk2, rfl⟩ := h
        rw [List.length_append] at hl
        obtain ⟨x, hx1⟩ := hx f (by simp)
        have h1 := ih f.type k1 hk1 _ x hx1
        have h2 := ihf (f.offset + k1.length) k2 hk2 (by omega) (fun f' hf' => hx f' (by simp [hf']))
        rw [← hlen] at h1
        have e : cs.drop f.offset = (cs.drop f.offset).take k1.length ++ cs.drop (f.offset + k1.length) := by
          rw [← List.drop_drop]; exact (List.take_append_drop _ _).symm
        rw [e]
        exact Fits.append h1 h2
      · cases h
    · cases h

theorem fits_items {ks : List IntKind} {c : Nat} (hc : ks.length = c) (cs : List Value) : ∀ m, (∀ i, i < m → Fits ks ((cs.drop (i * c)).take c)) → m * c ≤ cs.length → Fits ((List.range m).flatMap fun _ => ks) (cs.take (m * c)) := by
  intro m
  induction m with
  | zero => intro _ _; simp [Fits]
  | succ m ih =>
    intro h hl
    rw [Nat.succ_mul] at hl ⊢
    rw [List.range_succ, List.flatMap_append, List.take_add]
    refine Fits.append (ih (fun i hi => h i (by omega)) (by omega)) ?_
    simpa using h m (by omega)

theorem trod_kinds : ∀ (n : Nat) (t : TypeId) (ks : List IntKind), kinds P n t = some ks → ∀ (fuel : Nat) (cs : List Value) (x : DataW H × List MemPlace), DataW.trod enc P w base spare held fuel t cs = some x → Fits ks cs := by
  intro n
  induction n with
  | zero => intro t ks h; simp [kinds] at h
  | succ n ih =>
    intro t ks h fuel cs x hx
    unfold kinds at h
    split at h
    · rename_i k hu
      cases h
      cases fuel with
      | zero => simp [DataW.trod] at hx
      | succ m =>
        unfold DataW.trod at hx
        rw [hu] at hx
        split at hx <;> simp_all [Fits]
    · rename_i fs hu
      simp only [Option.bind_eq_some_iff] at h
      obtain ⟨ks', h1, h2⟩ := h
      split at h2
      · rename_i hl
        cases h2
        obtain ⟨xs, m, rfl, -, hcl, hxl, hg⟩ := DataW.trod_struct hu hx
        have := fits_fields (fun t ks hk cs x hx => ih t ks hk m cs x hx) cs fs.toList 0 ks h1 (by omega) ?_
        · simpa using this
        · intro f hf
          obtain ⟨i, hi, rfl⟩ := List.getElem_of_mem hf
          have hi' : i < fs.size := by simpa using hi
          have := hg i fs[i] (by simp [hi'])
          refine ⟨xs[i]'(by omega), ?_⟩
          simp only [Array.getElem_toList]
          rw [this]; exact List.getElem?_eq_getElem _
      · cases h2
    · rename_i m e hu
      simp only [Option.bind_eq_some_iff] at h
      obtain ⟨ks', h1, h2⟩ := h
      split at h2
      · rename_i hl
        cases h2
        obtain ⟨xs, q, rfl, -, hcl, hxl, hg⟩ := DataW.trod_array hu hx
        have := fits_items hl.1 cs m (fun i hi => ?_) (by rw [hcl, ← hl.2, hl.1]; exact Nat.le_refl _)
        · rw [List.take_of_length_le (by rw [hcl, ← hl.2, hl.1]; exact Nat.le_refl _)] at this
          exact this
        · have hi2 := hg i hi
          exact ih e ks' h1 q _ (xs[i]'(by omega)) (by rw [hi2]; exact List.getElem?_eq_getElem _)
      · cases h2
    · cases h

/-- A slice of such elements that came in. -/
theorem sl_of_open {α : Type} [Inhabited α] {f : α → List Value} {ok : α → Prop} {ks : List IntKind} {s : Nat} (hs : ks.length = s) (h0 : 0 < s) (conv : ∀ cs, Fits ks cs → ∃ x, ok x ∧ cs = f x) {t e : TypeId} {fuel : Nat} {a : Option Addr} {len cap : Nat} {x : DataW H × List MemPlace}
    (ht : P.underlying t = some (.slice e)) (he : P.cellsOf e = s) (hk : kinds P 5 e = some ks) (h : DataW.trod enc P w base spare held fuel t [.slice a len cap] = some x) :
    ∃ l : List α, l.length = len ∧ (∀ k (h : k < l.length), ok l[k]) ∧ SlAt w.heap.size w a (flat f l) ∧ len ≤ maxLen := by
  rcases Go.Deep.open_slice ht h with ⟨hcs, _⟩ | ⟨a, len, cap, m, n, D, Pl, hcs, -, hlc, hcm, hm, -, hel⟩
  · simp only [List.cons.injEq, Value.slice.injEq, and_true] at hcs
    obtain ⟨rfl, rfl, rfl⟩ := hcs
    exact ⟨[], rfl, fun k h => by simp at h, fun j hj => by simp [flat] at hj, by simp [maxLen]⟩
  · simp only [List.cons.injEq, Value.slice.injEq, and_true] at hcs
    obtain ⟨rfl, rfl, rfl⟩ := hcs
    have hlm : len ≤ m := by rw [hm]; split <;> omega
    have hch : ∃ g : Nat → α, ∀ i, i < len → ok (g i) ∧ w.cells? base (a.add (i * s)) s = some (f (g i)) := by
      refine Go.Deep.choose_lt (p := fun i y => ok y ∧ w.cells? base (a.add (i * s)) s = some (f y)) fun i hi => ?_
      obtain ⟨cs', h1, h2⟩ := hel i (by omega)
      obtain ⟨y, hy, rfl⟩ := conv _ (trod_kinds 5 e ks hk _ _ _ h2)
      rw [he] at h1
      exact ⟨y, hy, h1⟩
    obtain ⟨g, hg⟩ := hch
    have hfl : ∀ i, i < len → (f (g i)).length = s := by
      intro i hi
      have := (hg i hi).2
      unfold World.cells? at this
      split at this
      · have := mapM_some_length this; simpa using this
      · cases this
    have cell : ∀ i c, i < len → c < s → w.cell? ((a.add (i * s)).add c) = (f (g i))[c]? := by
      intro i c hi hc
      have := (hg i hi).2
      unfold World.cells? at this
      split at this
      · exact mapM_some_get this c c (by simp [hc])
      · cases this
    refine ⟨(List.range len).map g, by simp, fun k hk => by simp at hk ⊢; exact (hg k hk).1, ?_, by omega⟩
    intro j hj
    have hl : ∀ L, L ≤ len → (flat f ((List.range L).map g)).length = L * s := by
      intro L
      induction L with
      | zero => intro _; simp [flat]
      | succ L ih =>
        intro h1
        rw [List.range_succ, List.map_append, flat_append, List.length_append, Nat.succ_mul, ih (by omega)]
        simp [flat, hfl L (by omega)]
    obtain ⟨q, r, hr, hjj⟩ : ∃ q r, r < s ∧ q * s + r = j := ⟨j / s, j % s, Nat.mod_lt _ h0, by rw [Nat.mul_comm]; exact Nat.div_add_mod j s⟩
    have hq : q < len := by
      rw [hl len (Nat.le_refl _)] at hj
      exact Nat.lt_of_mul_lt_mul_right (a := s) (by omega)
    have hc := cell q r hq hr
    rw [Go.Deep.add_add, hjj] at hc
    have key : ∀ (L : Nat), L ≤ len → q < L → (flat f ((List.range L).map g))[j]? = (f (g q))[r]? := by
      intro L
      induction L with
      | zero => intro _ h; omega
      | succ L ih =>
        intro hL1 hL2
        rw [List.range_succ, List.map_append, flat_append]
        by_cases h : q < L
        · rw [List.getElem?_append_left]
          · exact ih (by omega) h
          · rw [hl L (by omega)]
            have : (q + 1) * s ≤ L * s := Nat.mul_le_mul_right _ h
            rw [Nat.succ_mul] at this
            omega
        · have e : q = L := by omega
          rw [List.getElem?_append_right (by rw [hl L (by omega), ← e]; omega), hl L (by omega), ← e]
          have : j - q * s = r := by omega
          rw [this]
          simp [flat]
    have hget := key len (Nat.le_refl _) hq
    have hv : (flat f ((List.range len).map g))[j]? = some (flat f ((List.range len).map g))[j] := List.getElem?_eq_getElem hj
    rw [← hget, hv] at hc
    obtain ⟨b, off, spot⟩ := a
    have hsp := World.cell?_spot hc
    by_cases hj0 : j = 0
    · subst hj0
      simp only [Addr.add, if_true] at hsp hc
      subst hsp
      exact ⟨b, off, rfl, World.block_lt_of_cell? w _ hc, by simpa using hc⟩
    · simp only [Addr.add, hj0, if_false] at hc
      have hc0 := cell 0 0 (by omega) h0
      have hv0 : (f (g 0))[0]? = some ((f (g 0))[0]'(by rw [hfl 0 (by omega)]; exact h0)) := List.getElem?_eq_getElem _
      rw [hv0] at hc0
      have hsp0 := World.cell?_spot hc0
      simp only [Nat.zero_mul, Addr.add, if_true] at hsp0
      subst hsp0
      exact ⟨b, off, rfl, World.block_lt_of_cell? w _ hc, hc⟩
end

section
variable {H : Type} {enc : TypeId × Value → H} {P : Program} {w : World} {base : Nat} {spare : Nat → Bool} {held : Bool}
/-- The same, of any value of a slice's type. -/
theorem sl_of_trod {α : Type} [Inhabited α] {f : α → List Value} {ok : α → Prop} {ks : List IntKind} {s : Nat} (hs : ks.length = s) (h0 : 0 < s) (conv : ∀ cs, Fits ks cs → ∃ x, ok x ∧ cs = f x) {t e : TypeId} {fuel : Nat} {cs : List Value} {x : DataW H × List MemPlace}
    (ht : P.underlying t = some (.slice e)) (he : P.cellsOf e = s) (hk : kinds P 5 e = some ks) (h : DataW.trod enc P w base spare held fuel t cs = some x) :
    ∃ a cap, ∃ l : List α, cs = [.slice a l.length cap] ∧ (∀ k (h : k < l.length), ok l[k]) ∧ SlAt w.heap.size w a (flat f l) ∧ l.length ≤ maxLen := by
  rcases Go.Deep.open_slice ht h with ⟨hcs, _⟩ | ⟨a, len, cap, m, n, D, Pl, hcs, -⟩
  all_goals
    subst hcs
    obtain ⟨l, hl, h1, h2, h3⟩ := sl_of_open hs h0 conv ht he hk h
    exact ⟨_, _, l, by rw [hl], h1, h2, by rw [hl]; exact h3⟩
/-- A struct or array of whole numbers alone, as it came in. -/
theorem fits_of_trod {t : TypeId} {ks : List IntKind} {v : Value} {d : DataW H} {p : List MemPlace} (hk : kinds P 5 t = some ks) (h : DataW.Trod enc P w base spare held t v d p) : Fits ks v.cells.toList := by
  obtain ⟨fuel, h⟩ := h
  exact trod_kinds 5 t ks hk _ _ _ h
end

theorem fits_cons {k : IntKind} {ks : List IntKind} {cs : List Value} (h : Fits (k :: ks) cs) : ∃ n vs, cs = .int k n :: vs ∧ (Lit.int k n).wf = true ∧ Fits ks vs := by
  cases cs with
  | nil => exact h.elim
  | cons v vs => obtain ⟨⟨n, rfl, hn⟩, h⟩ := h; exact ⟨n, vs, rfl, hn, h⟩
theorem fits_nil {cs : List Value} (h : Fits [] cs) : cs = [] := by
  cases cs with
  | nil => rfl
  | cons v vs => exact h.elim

theorem conv_pc (cs : List Value) (h : Fits [.i8, .i8, .i8, .i8, .i8] cs) : ∃ p : Pc, p.ok ∧ cs = p.cells := by
  obtain ⟨a, _, rfl, h0, h⟩ := fits_cons h
  obtain ⟨b, _, rfl, h1, h⟩ := fits_cons h
  obtain ⟨c, _, rfl, h2, h⟩ := fits_cons h
  obtain ⟨d, _, rfl, h3, h⟩ := fits_cons h
  obtain ⟨e, _, rfl, h4, h⟩ := fits_cons h
  obtain rfl := fits_nil h
  exact ⟨⟨a, b, c, d, e⟩, ⟨⟨bounds_i8 h0, bounds_i8 h1⟩, bounds_i8 h2, bounds_i8 h3, bounds_i8 h4⟩, rfl⟩
theorem conv_ce (cs : List Value) (h : Fits [.i8, .i8] cs) : ∃ p : Ce, p.ok ∧ cs = p.cells := by
  obtain ⟨a, _, rfl, h0, h⟩ := fits_cons h
  obtain ⟨b, _, rfl, h1, h⟩ := fits_cons h
  obtain rfl := fits_nil h
  exact ⟨⟨a, b⟩, ⟨bounds_i8 h0, bounds_i8 h1⟩, rfl⟩

end Go.Proofs.Ytoldmgpdcenmhaa
