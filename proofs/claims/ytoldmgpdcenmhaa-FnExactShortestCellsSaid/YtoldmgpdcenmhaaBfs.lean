/- Steps over free cells: plain laws. -/
import Derived.Test.YtoldmgpdcenmhaaHas
import Derived.Test.YtoldmgpdcenmhaaPath
import Derived.Test.YtoldmgpdcenmhaaC12
namespace Go.Proofs.Ytoldmgpdcenmhaa
open Go.RowKit
set_option linter.unusedVariables false
set_option linter.unusedSimpArgs false
set_option maxHeartbeats 400000
set_option maxRecDepth 100000
def qcs (q : List (Ce × Int)) : List Ce := q.map Prod.fst
theorem qcs_len (q : List (Ce × Int)) : (qcs q).length = q.length := by simp [qcs]
theorem qcs_snoc (q : List (Ce × Int)) (c : Ce) (d : Int) : qcs (q ++ [(c, d)]) = qcs q ++ [c] := by simp [qcs]
theorem qcs_get (q : List (Ce × Int)) (k : Nat) (h : k < q.length) : (qcs q)[k]'(by rw [qcs_len]; exact h) = q[k].1 := by simp [qcs]
/-- One step: the neighbour on a side of the k-th cell is reached, if it is free and new. -/
def stepq (l : Bd) (q : List (Ce × Int)) (k : Nat) (s : Int) : List (Ce × Int) :=
  if h : k < q.length then (if fr l (nxt q[k].1 s) = true ∧ nxt q[k].1 s ∉ qcs q then q ++ [(nxt q[k].1 s, q[k].2 + 1)] else q) else q
theorem stepq_no (l : Bd) (q : List (Ce × Int)) (k : Nat) (s : Int) (h : k < q.length) (hn : fr l (nxt q[k].1 s) = false ∨ nxt q[k].1 s ∈ qcs q) : stepq l q k s = q := by
  unfold stepq
  rw [dif_pos h, if_neg]
  rintro ⟨h1, h2⟩
  rcases hn with hn | hn
  · rw [hn] at h1; cases h1
  · exact h2 hn
theorem stepq_yes (l : Bd) (q : List (Ce × Int)) (k : Nat) (s : Int) (h : k < q.length) (h1 : fr l (nxt q[k].1 s) = true) (h2 : nxt q[k].1 s ∉ qcs q) : stepq l q k s = q ++ [(nxt q[k].1 s, q[k].2 + 1)] := by
  unfold stepq
  rw [dif_pos h, if_pos ⟨h1, h2⟩]
theorem stepq_past (l : Bd) (q : List (Ce × Int)) (k : Nat) (s : Int) (h : q.length ≤ k) : stepq l q k s = q := by
  unfold stepq
  rw [dif_neg (by omega)]
def bq (l : Bd) (c : Ce) : Nat → List (Ce × Int)
  | 0 => [(c, 0)]
  | n + 1 => stepq l (bq l c n) (n / 4) ((n % 4 : Nat) : Int)
theorem bq_zero (l : Bd) (c : Ce) : bq l c 0 = [(c, 0)] := rfl
theorem bq_next (l : Bd) (c : Ce) (k s : Nat) (h : s < 4) : bq l c (4 * k + s + 1) = stepq l (bq l c (4 * k + s)) k (s : Int) := by
  rw [bq]
  rw [show (4 * k + s) / 4 = k by omega, show (4 * k + s) % 4 = s by omega]
/-- What holds of all that has been reached. -/
def goodq (l : Bd) (c : Ce) (q : List (Ce × Int)) : Prop :=
  (qcs q).Nodup ∧ (∀ p ∈ q, fr l p.1 = true) ∧ (∀ (i : Nat) (h : i < q.length), 0 ≤ q[i].2 ∧ q[i].2 ≤ i) ∧ (∃ r, q = (c, 0) :: r ∧ ∀ p ∈ r, 1 ≤ p.2)
theorem goodq_step (l : Bd) (c : Ce) (q : List (Ce × Int)) (k : Nat) (s : Int) (h : goodq l c q) : goodq l c (stepq l q k s) := by
  by_cases hk : k < q.length
  · by_cases h1 : fr l (nxt q[k].1 s) = true ∧ nxt q[k].1 s ∉ qcs q
    · rw [stepq_yes l q k s hk h1.1 h1.2]
      obtain ⟨a1, a2, a3, r, a4, a5⟩ := h
      refine ⟨?_, ?_, ?_, r ++ [(nxt q[k].1 s, q[k].2 + 1)], (congrArg (· ++ [(nxt q[k].1 s, q[k].2 + 1)]) a4).trans rfl, ?_⟩
      · rw [qcs_snoc, List.nodup_append]
        refine ⟨a1, by simp, ?_⟩
        intro a ha b hb
        simp only [List.mem_singleton] at hb
        subst hb
        intro e; subst e
        exact h1.2 ha
      · intro p hp
        rcases List.mem_append.1 hp with hp | hp
        · exact a2 p hp
        · simp only [List.mem_singleton] at hp
          subst hp
          exact h1.1
      · intro i hi
        by_cases hq : i < q.length
        · rw [List.getElem_append_left hq]; exact a3 i hq
        · have : i = q.length := by simp at hi; omega
          subst this
          have := a3 k hk
          simp; omega
      · intro p hp
        rcases List.mem_append.1 hp with hp | hp
        · exact a5 p hp
        · simp only [List.mem_singleton] at hp
          subst hp
          have := a3 k hk
          simp; omega
    · rw [stepq_no l q k s hk (by
        by_cases h2 : fr l (nxt q[k].1 s) = true
        · right
          exact Decidable.byContradiction fun h3 => h1 ⟨h2, h3⟩
        · left; simpa using h2)]
      exact h
  · rw [stepq_past l q k s (by omega)]
    exact h
theorem goodq_bq (l : Bd) (c : Ce) (hc : fr l c = true) (n : Nat) : goodq l c (bq l c n) := by
  induction n with
  | zero =>
    refine ⟨by simp [bq, qcs], ?_, ?_, [], rfl, by simp⟩
    · intro p hp
      simp only [bq, List.mem_singleton] at hp
      subst hp; exact hc
    · intro i hi
      simp [bq] at hi
      subst hi
      simp [bq]
  | succ n ih => exact goodq_step _ _ _ _ _ ih
/-- A list without doubles whose members are numbers below n. -/
theorem nodup_le : ∀ (n : Nat) (xs : List Nat), xs.Nodup → (∀ x ∈ xs, x < n) → xs.length ≤ n := by
  intro n
  induction n with
  | zero =>
    intro xs _ h
    cases xs with
    | nil => simp
    | cons x xs => have := h x (by simp); omega
  | succ n ih =>
    intro xs hn h
    have h1 := ih (xs.erase n) (hn.erase n) (by
      intro x hx
      have h2 := h x (List.mem_of_mem_erase hx)
      have h3 : x ≠ n := by
        intro e; subst e
        exact (List.Nodup.not_mem_erase hn) hx
      omega)
    by_cases hm : n ∈ xs
    · rw [List.length_erase_of_mem hm] at h1; omega
    · rw [List.erase_of_not_mem hm] at h1; omega
theorem fr_in (l : Bd) (c : Ce) (h : fr l c = true) : 0 ≤ c.x ∧ c.x < l.wd ∧ 0 ≤ c.y ∧ c.y < l.hg := by
  unfold fr cIn inB at h
  simp only [Bool.and_eq_true, decide_eq_true_eq] at h
  omega
/-- The place of a cell in the order of rows. -/
def idx (l : Bd) (c : Ce) : Int := c.y * l.wd + c.x
theorem idx_nat (l : Bd) (c : Ce) (wn hn : Nat) (hw : l.wd = wn) (hh : l.hg = hn) (h : fr l c = true) : ∃ x y : Nat, c = ⟨x, y⟩ ∧ x < wn ∧ y < hn ∧ idx l c = ((y * wn + x : Nat) : Int) ∧ y * wn + x < hn * wn := by
  obtain ⟨h1, h2, h3, h4⟩ := fr_in l c h
  obtain ⟨cx, cy⟩ := c
  simp only at h1 h2 h3 h4
  refine ⟨cx.toNat, cy.toNat, ?_, by omega, by omega, ?_, ?_⟩
  · rw [Int.toNat_of_nonneg h1, Int.toNat_of_nonneg h3]
  · unfold idx
    simp only [hw]
    rw [Int.natCast_add, Int.natCast_mul, Int.toNat_of_nonneg h1, Int.toNat_of_nonneg h3]
  · have h5 : cy.toNat + 1 ≤ hn := by omega
    have h6 : cx.toNat < wn := by omega
    have := Nat.mul_le_mul_right wn h5
    rw [Nat.add_mul] at this
    omega
theorem idx_inj (l : Bd) (c d : Ce) (hc : fr l c = true) (hd : fr l d = true) (h : idx l c = idx l d) : c = d := by
  obtain ⟨a1, a2, a3, a4⟩ := fr_in l c hc
  obtain ⟨b1, b2, b3, b4⟩ := fr_in l d hd
  obtain ⟨cx, cy⟩ := c
  obtain ⟨dx, dy⟩ := d
  simp only [idx] at *
  have e1 : cy = dy := by
    have h1 : (cy * l.wd + cx) / l.wd = cy := by rw [Int.add_comm, Int.add_mul_ediv_right _ _ (by omega), Int.ediv_eq_zero_of_lt a1 a2]; omega
    have h2 : (dy * l.wd + dx) / l.wd = dy := by rw [Int.add_comm, Int.add_mul_ediv_right _ _ (by omega), Int.ediv_eq_zero_of_lt b1 b2]; omega
    rw [← h1, ← h2, h]
  subst e1
  have : cx = dx := by omega
  rw [this]
theorem bq_len (l : Bd) (c : Ce) (hc : fr l c = true) (n : Nat) (hw : l.wd ≤ 24) (hh : l.hg ≤ 24) : (bq l c n).length ≤ 576 := by
  obtain ⟨h1, h2, -, -⟩ := goodq_bq l c hc n
  obtain ⟨b1, b2, b3, b4⟩ := fr_in l c hc
  have hfr : ∀ d ∈ qcs (bq l c n), fr l d = true := by
    intro d hd
    obtain ⟨p, hp, rfl⟩ := List.mem_map.1 hd
    exact h2 p hp
  have h3 : ((qcs (bq l c n)).map fun d => (idx l d).toNat).Nodup := by
    rw [List.Nodup, List.pairwise_map]
    refine List.Pairwise.imp_of_mem ?_ h1
    intro a b ha hb hab e
    apply hab
    have ea := fr_in l a (hfr a ha)
    have eb := fr_in l b (hfr b hb)
    have i1 : 0 ≤ idx l a := by
      unfold idx
      have := Int.mul_nonneg ea.2.2.1 (show 0 ≤ l.wd by omega)
      omega
    have i2 : 0 ≤ idx l b := by
      unfold idx
      have := Int.mul_nonneg eb.2.2.1 (show 0 ≤ l.wd by omega)
      omega
    exact idx_inj l a b (hfr a ha) (hfr b hb) (by omega)
  have h4 := nodup_le 576 _ h3 (by
    intro x hx
    obtain ⟨d, hd, rfl⟩ := List.mem_map.1 hx
    obtain ⟨x, y, -, h5, h6, h7, h8⟩ := idx_nat l d l.wd.toNat l.hg.toNat (by omega) (by omega) (hfr d hd)
    have : l.hg.toNat * l.wd.toNat ≤ 24 * 24 := Nat.mul_le_mul (by omega) (by omega)
    rw [h7]
    simp only [Int.toNat_natCast]
    omega)
  rw [List.length_map, qcs_len] at h4
  exact h4
/-- All that can be reached. -/
def bfs (l : Bd) (c : Ce) : List (Ce × Int) := bq l c (4 * 600)
theorem bq_still (l : Bd) (c : Ce) (k : Nat) (h : (bq l c (4 * k)).length ≤ k) (m : Nat) : bq l c (4 * k + m) = bq l c (4 * k) := by
  induction m with
  | zero => rfl
  | succ m ih =>
    show stepq l (bq l c (4 * k + m)) ((4 * k + m) / 4) _ = _
    rw [ih, stepq_past _ _ _ _ (by omega)]
theorem bfs_end (l : Bd) (c : Ce) (k : Nat) (hk : k ≤ 600) (h : (bq l c (4 * k)).length ≤ k) : bfs l c = bq l c (4 * k) := by
  have := bq_still l c k h (4 * 600 - 4 * k)
  rw [show 4 * k + (4 * 600 - 4 * k) = 4 * 600 by omega] at this
  exact this
/-- The distance of a cell, -1: none. -/
def dget (q : List (Ce × Int)) (d : Ce) : Option Int := (q.find? fun p => decide (d = p.1)).map (·.2)
def dOf (q : List (Ce × Int)) (d : Ce) : Int := (dget q d).getD (-1)
theorem dget_none (q : List (Ce × Int)) (d : Ce) (h : d ∉ qcs q) : dget q d = none := by
  unfold dget
  rw [List.find?_eq_none.2]
  · rfl
  · intro p hp
    simp only [decide_eq_true_eq]
    intro e
    exact h (List.mem_map.2 ⟨p, hp, e.symm⟩)
theorem dget_some (q : List (Ce × Int)) (d : Ce) (h : d ∈ qcs q) : ∃ p ∈ q, p.1 = d ∧ dget q d = some p.2 := by
  unfold dget
  obtain ⟨p, hp, rfl⟩ := List.mem_map.1 h
  cases hf : q.find? fun p' => decide (p.1 = p'.1) with
  | none =>
    have := List.find?_eq_none.1 hf p hp
    simp at this
  | some p' =>
    have h1 := List.find?_some hf
    have h2 := List.mem_of_find?_eq_some hf
    simp only [decide_eq_true_eq] at h1
    exact ⟨p', h2, h1.symm, rfl⟩
theorem dget_snoc (q : List (Ce × Int)) (c d : Ce) (n : Int) (h : c ∉ qcs q) : dget (q ++ [(c, n)]) d = if d = c then some n else dget q d := by
  unfold dget
  rw [List.find?_append]
  by_cases e : d = c
  · subst e
    have := dget_none q d h
    unfold dget at this
    rw [Option.map_eq_none_iff] at this
    rw [this, if_pos rfl]
    simp
  · rw [if_neg e]
    cases hf : q.find? fun p => decide (d = p.1) with
    | none => simp [e]
    | some p => simp
theorem dOf_neg (l : Bd) (c : Ce) (q : List (Ce × Int)) (hq : goodq l c q) (d : Ce) : (0 ≤ dOf q d) ↔ d ∈ qcs q := by
  unfold dOf
  constructor
  · intro h
    refine Decidable.byContradiction fun h2 => ?_
    rw [dget_none q d h2] at h
    simp at h
  · intro h
    obtain ⟨p, hp, e, h2⟩ := dget_some q d h
    rw [h2]
    obtain ⟨i, hi, rfl⟩ := List.getElem_of_mem hp
    have := hq.2.2.1 i hi
    simp; omega
theorem dOf_bd (l : Bd) (c : Ce) (q : List (Ce × Int)) (hq : goodq l c q) (hl : q.length ≤ 576) (d : Ce) : -1 ≤ dOf q d ∧ dOf q d ≤ 576 := by
  unfold dOf
  by_cases h : d ∈ qcs q
  · obtain ⟨p, hp, e, h2⟩ := dget_some q d h
    rw [h2]
    obtain ⟨i, hi, rfl⟩ := List.getElem_of_mem hp
    have := hq.2.2.1 i hi
    simp; omega
  · rw [dget_none q d h]; simp
theorem dOf_at (l : Bd) (c : Ce) (q : List (Ce × Int)) (hq : goodq l c q) (k : Nat) (hk : k < q.length) : dget q q[k].1 = some q[k].2 := by
  obtain ⟨p, hp, e, h2⟩ := dget_some q q[k].1 (List.mem_map.2 ⟨_, List.getElem_mem hk, rfl⟩)
  rw [h2]
  obtain ⟨i, hi, rfl⟩ := List.getElem_of_mem hp
  have hn := hq.1
  have this : i = k := by
    refine Decidable.byContradiction fun hne => ?_
    rcases Nat.lt_or_gt_of_ne hne with hlt | hlt
    · exact List.pairwise_iff_getElem.1 hn i k (by rw [qcs_len]; exact hi) (by rw [qcs_len]; exact hk) hlt (by rw [qcs_get q i hi, qcs_get q k hk]; exact e)
    · exact List.pairwise_iff_getElem.1 hn k i (by rw [qcs_len]; exact hk) (by rw [qcs_len]; exact hi) hlt (by rw [qcs_get q i hi, qcs_get q k hk]; exact e.symm)
  subst this
  rfl
/-- The distances of all cells. -/
def outL (l : Bd) (q : List (Ce × Int)) : List Int := (allC l).map (dOf q)
/-- The cell at a place of the order of rows. -/
def cAt (wn i : Nat) : Ce := ⟨((i % wn : Nat) : Int), ((i / wn : Nat) : Int)⟩
theorem cAt_eq (wn x y : Nat) (h : x < wn) : cAt wn (y * wn + x) = ⟨(x : Int), (y : Int)⟩ := by
  unfold cAt
  rw [Nat.mul_comm y wn, Nat.mul_add_mod, Nat.mod_eq_of_lt h, Nat.mul_add_div (by omega), Nat.div_eq_of_lt h, Nat.add_zero]
theorem cAt_inj (wn x y i : Nat) (h : x < wn) (e : cAt wn i = ⟨(x : Int), (y : Int)⟩) : i = y * wn + x := by
  unfold cAt at e
  simp only [Ce.mk.injEq] at e
  have e1 : i % wn = x := by omega
  have e2 : i / wn = y := by omega
  rw [← e1, ← e2, Nat.mul_comm, Nat.div_add_mod]
theorem cellsTo_eq (wn : Nat) : ∀ (k j : Nat), j ≤ wn → cellsTo wn k j = (List.range (k * wn + j)).map (cAt wn) := by
  intro k
  induction k with
  | zero =>
    intro j
    induction j with
    | zero => intro _; simp [cellsTo]
    | succ j ih =>
      intro h
      rw [cellsTo_snoc, ih (by omega), ← Nat.add_assoc, List.range_succ, List.map_append, List.map_cons, List.map_nil, cAt_eq wn j 0 (by omega)]
  | succ k ihk =>
    intro j
    induction j with
    | zero => intro _; rw [cellsTo_row, ihk wn (Nat.le_refl _), Nat.succ_mul, Nat.add_zero]
    | succ j ih =>
      intro h
      rw [cellsTo_snoc, ih (by omega), ← Nat.add_assoc, List.range_succ, List.map_append, List.map_cons, List.map_nil, cAt_eq wn j (k + 1) (by omega)]
theorem allC_eq (l : Bd) : allC l = (List.range (l.hg.toNat * l.wd.toNat)).map (cAt l.wd.toNat) := by
  unfold allC
  rw [cellsTo_eq _ _ 0 (Nat.zero_le _), Nat.add_zero]
theorem outL_len (l : Bd) (q : List (Ce × Int)) : (outL l q).length = l.hg.toNat * l.wd.toNat := by
  unfold outL
  rw [allC_eq]
  simp
theorem outL_nil (l : Bd) : outL l [] = List.replicate (l.hg.toNat * l.wd.toNat) (-1) := by
  unfold outL
  rw [allC_eq, List.map_map]
  apply List.ext_getElem
  · simp
  · intro i h1 h2
    simp [dOf, dget]
theorem outL_get (l : Bd) (q : List (Ce × Int)) (d : Ce) (h : fr l d = true) : (outL l q)[(idx l d).toNat]? = some (dOf q d) := by
  have hb := fr_in l d h
  obtain ⟨x, y, rfl, h1, h2, h3, h4⟩ := idx_nat l d l.wd.toNat l.hg.toNat (by omega) (by omega) h
  rw [h3, Int.toNat_natCast]
  unfold outL
  rw [allC_eq, List.map_map, List.getElem?_map, List.getElem?_range h4]
  simp only [Option.map_some, Function.comp_apply, cAt_eq _ _ _ h1]
theorem outL_snoc (l : Bd) (q : List (Ce × Int)) (d : Ce) (n : Int) (h : fr l d = true) (hd : d ∉ qcs q) : outL l (q ++ [(d, n)]) = (outL l q).set (idx l d).toNat n := by
  have hb := fr_in l d h
  obtain ⟨x, y, e, h1, h2, h3, h4⟩ := idx_nat l d l.wd.toNat l.hg.toNat (by omega) (by omega) h
  rw [h3, Int.toNat_natCast]
  unfold outL
  rw [allC_eq, List.map_map, List.map_map]
  apply List.ext_getElem
  · simp
  · intro i hi hi2
    rw [List.getElem_set]
    simp only [List.getElem_map, List.getElem_range, Function.comp_apply]
    unfold dOf
    rw [dget_snoc q d _ n hd]
    by_cases hx : y * l.wd.toNat + x = i
    · subst hx
      rw [cAt_eq _ _ _ h1, ← e]
      simp
    · have : cAt l.wd.toNat i ≠ d := by
        intro e2
        rw [e] at e2
        exact hx (cAt_inj _ _ _ _ h1 e2).symm
      rw [if_neg this, if_neg hx]
/-- What the map holds. -/
def qkv (q : List (Ce × Int)) : List (Ce × Value) := q.map fun p => (p.1, Value.int .i64 p.2)
theorem mget_qkv (d : Ce) : ∀ q : List (Ce × Int), mget d (qkv q) = (dget q d).map (Value.int .i64) := by
  intro q
  induction q with
  | nil => rfl
  | cons p q ih =>
    rw [qkv, List.map_cons, mget_cons]
    unfold dget
    rw [List.find?_cons]
    by_cases h : d = p.1
    · rw [if_pos h, decide_eq_true h]; rfl
    · rw [if_neg h, decide_eq_false h]
      exact ih
theorem mput_qkv (d : Ce) (n : Int) (q : List (Ce × Int)) (h : d ∉ qcs q) : mput d (.int .i64 n) (qkv q) = qkv (q ++ [(d, n)]) := by
  have h2 : mget d (qkv q) = none := by rw [mget_qkv, dget_none q d h]; rfl
  unfold mget at h2
  rw [mput_none d _ _ (Option.map_eq_none_iff.1 h2)]
  simp [qkv]
end Go.Proofs.Ytoldmgpdcenmhaa
