/- Shortest lines: plain laws. -/
import Derived.Test.YtoldmgpdcenmhaaBfs
namespace Go.Proofs.Ytoldmgpdcenmhaa
open Go.RowKit
set_option linter.unusedVariables false
set_option linter.unusedSimpArgs false
set_option maxHeartbeats 400000
set_option maxRecDepth 100000
/-- Each cell but the first has been reached from one that is one step nearer. -/
def parq (q : List (Ce × Int)) : Prop := ∀ (i : Nat) (h : i < q.length), 0 < q[i].2 → ∃ (j : Nat) (hj : j < q.length) (s : Int), 0 ≤ s ∧ s ≤ 3 ∧ q[i].1 = nxt q[j].1 s ∧ q[i].2 = q[j].2 + 1
theorem parq_step (l : Bd) (q : List (Ce × Int)) (k : Nat) (s : Int) (h1 : 0 ≤ s) (h2 : s ≤ 3) (h : parq q) : parq (stepq l q k s) := by
  by_cases hk : k < q.length
  · by_cases hn : fr l (nxt q[k].1 s) = true ∧ nxt q[k].1 s ∉ qcs q
    · rw [stepq_yes l q k s hk hn.1 hn.2]
      intro i hi hpos
      by_cases hq : i < q.length
      · rw [List.getElem_append_left hq] at hpos
        obtain ⟨j, hj, s', a1, a2, a3, a4⟩ := h i hq hpos
        refine ⟨j, by simp; omega, s', a1, a2, ?_, ?_⟩
        · rw [List.getElem_append_left hq, List.getElem_append_left hj]; exact a3
        · rw [List.getElem_append_left hq, List.getElem_append_left hj]; exact a4
      · have e : i = q.length := by simp at hi; omega
        subst e
        refine ⟨k, by simp; omega, s, h1, h2, ?_, ?_⟩
        · rw [List.getElem_append_left hk]; simp
        · rw [List.getElem_append_left hk]; simp
    · rw [stepq_no l q k s hk (by
        by_cases h2 : fr l (nxt q[k].1 s) = true
        · right
          exact Decidable.byContradiction fun h3 => hn ⟨h2, h3⟩
        · left; simpa using h2)]
      exact h
  · rw [stepq_past l q k s (by omega)]
    exact h
theorem parq_bq (l : Bd) (c : Ce) (n : Nat) : parq (bq l c n) := by
  induction n with
  | zero =>
    intro i hi hpos
    have e : i = 0 := by simp [bq] at hi; omega
    subst e
    simp [bq] at hpos
  | succ n ih => exact parq_step _ _ _ _ (by omega) (by omega) ih
def hitAt (q : List (Ce × Int)) (c : Ce) (s : Int) : Bool := decide (dget q (nxt c s) = some (dOf q c - 1))
def selS (q : List (Ce × Int)) (c : Ce) : Int := if hitAt q c 0 = true then 0 else if hitAt q c 1 = true then 1 else if hitAt q c 2 = true then 2 else 3
theorem first_hit (q : List (Ce × Int)) (c : Ce) (j : Nat) (h : j < 4) (h0 : ∀ i : Nat, i < j → hitAt q c i = false) (h1 : hitAt q c j = true) : selS q c = j := by
  unfold selS
  match j, h with
  | 0, _ =>
    have e : hitAt q c 0 = true := h1
    rw [if_pos e]; rfl
  | 1, _ =>
    have f0 : hitAt q c 0 = false := h0 0 (by omega)
    have e : hitAt q c 1 = true := h1
    rw [if_neg (by rw [f0]; decide), if_pos e]; rfl
  | 2, _ =>
    have f0 : hitAt q c 0 = false := h0 0 (by omega)
    have f1 : hitAt q c 1 = false := h0 1 (by omega)
    have e : hitAt q c 2 = true := h1
    rw [if_neg (by rw [f0]; decide), if_neg (by rw [f1]; decide), if_pos e]; rfl
  | 3, _ =>
    have f0 : hitAt q c 0 = false := h0 0 (by omega)
    have f1 : hitAt q c 1 = false := h0 1 (by omega)
    have f2 : hitAt q c 2 = false := h0 2 (by omega)
    rw [if_neg (by rw [f0]; decide), if_neg (by rw [f1]; decide), if_neg (by rw [f2]; decide)]; rfl
theorem hit_exists (l : Bd) (c0 : Ce) (q : List (Ce × Int)) (hg : goodq l c0 q) (hp : parq q) (hw : l.wd ≤ 24) (hh : l.hg ≤ 24) (c : Ce) (hc : c ∈ qcs q) (hd : 0 < dOf q c) : ∃ s : Nat, s < 4 ∧ hitAt q c s = true := by
  obtain ⟨p, hpm, e⟩ := List.mem_map.1 hc
  obtain ⟨i, hi, rfl⟩ := List.getElem_of_mem hpm
  have hdi : dOf q c = q[i].2 := by rw [← e]; unfold dOf; rw [dOf_at l c0 q hg i hi]; rfl
  obtain ⟨j, hj, s, a1, a2, a3, a4⟩ := hp i hi (by omega)
  have hfj : fr l q[j].1 = true := hg.2.1 _ (List.getElem_mem hj)
  have hb := fr_in l _ hfj
  have hok : q[j].1.ok := ⟨by constructor <;> omega, by constructor <;> omega⟩
  have hnb := nxt_back q[j].1 c hok s a1 a2 (by rw [← a3, e])
  refine ⟨((s + 2) % 4).toNat, by omega, ?_⟩
  rw [Int.toNat_of_nonneg (by omega)]
  unfold hitAt
  rw [hnb, dOf_at l c0 q hg j hj, hdi, a4]
  simp
theorem hit_sel (l : Bd) (c0 : Ce) (q : List (Ce × Int)) (hg : goodq l c0 q) (hp : parq q) (hw : l.wd ≤ 24) (hh : l.hg ≤ 24) (c : Ce) (hc : c ∈ qcs q) (hd : 0 < dOf q c) : dget q (nxt c (selS q c)) = some (dOf q c - 1) := by
  have h : hitAt q c (selS q c) = true := by
    obtain ⟨s, h1, h2⟩ := hit_exists l c0 q hg hp hw hh c hc hd
    unfold selS
    by_cases e0 : hitAt q c 0 = true
    · rw [if_pos e0]; exact e0
    · rw [if_neg e0]
      by_cases e1 : hitAt q c 1 = true
      · rw [if_pos e1]; exact e1
      · rw [if_neg e1]
        by_cases e2 : hitAt q c 2 = true
        · rw [if_pos e2]; exact e2
        · rw [if_neg e2]
          match s, h1 with
          | 0, _ => exact absurd h2 e0
          | 1, _ => exact absurd h2 e1
          | 2, _ => exact absurd h2 e2
          | 3, _ => exact h2
  unfold hitAt at h
  simpa using h
theorem no_hit (l : Bd) (c0 : Ce) (q : List (Ce × Int)) (hg : goodq l c0 q) (hp : parq q) (hw : l.wd ≤ 24) (hh : l.hg ≤ 24) (c : Ce) (hc : c ∈ qcs q) (hd : 0 < dOf q c) (h0 : ∀ i : Nat, i < 4 → hitAt q c i = false) : False := by
  obtain ⟨s, h1, h2⟩ := hit_exists l c0 q hg hp hw hh c hc hd
  rw [h0 s h1] at h2
  cases h2
theorem dOf_zero (l : Bd) (c0 : Ce) (q : List (Ce × Int)) (hg : goodq l c0 q) (x : Ce) (hx : x ∈ qcs q) : dOf q x = 0 ↔ x = c0 := by
  obtain ⟨-, -, -, r, e, hr⟩ := hg
  constructor
  · intro h
    obtain ⟨p, hp, e1, e2⟩ := dget_some q x hx
    unfold dOf at h
    rw [e2] at h
    simp only [Option.getD_some] at h
    rw [e] at hp
    rcases List.mem_cons.1 hp with rfl | hp
    · exact e1.symm
    · have := hr p hp; omega
  · intro h
    subst h
    unfold dOf dget
    rw [e]
    simp
/-- The line back to where the steps began. -/
def pth (q : List (Ce × Int)) (t : Ce) : Nat → Ce
  | 0 => t
  | n + 1 => nxt (pth q t n) (selS q (pth q t n))
theorem pth_props (l : Bd) (c0 : Ce) (q : List (Ce × Int)) (hg : goodq l c0 q) (hp : parq q) (hw : l.wd ≤ 24) (hh : l.hg ≤ 24) (t : Ce) (ht : t ∈ qcs q) (i : Nat) : (i : Int) ≤ dOf q t → pth q t i ∈ qcs q ∧ dOf q (pth q t i) = dOf q t - i := by
  induction i with
  | zero => intro _; exact ⟨ht, by simp [pth]⟩
  | succ i ih =>
    intro h
    obtain ⟨h1, h2⟩ := ih (by omega)
    have h3 := hit_sel l c0 q hg hp hw hh _ h1 (by omega)
    have hin : pth q t (i + 1) ∈ qcs q := by
      refine Decidable.byContradiction fun hn => ?_
      have := dget_none q _ hn
      rw [pth, h3] at this
      cases this
    refine ⟨hin, ?_⟩
    have h4 : dOf q (pth q t (i + 1)) = dOf q (pth q t i) - 1 := by
      show (dget q (pth q t (i + 1))).getD (-1) = _
      rw [pth, h3]
      rfl
    rw [h4, h2]
    omega
def pathTo (q : List (Ce × Int)) (t : Ce) (n : Nat) : List Ce := (List.range n).map (pth q t)
theorem pathTo_succ (q : List (Ce × Int)) (t : Ce) (n : Nat) : pathTo q t (n + 1) = pathTo q t n ++ [pth q t n] := by simp [pathTo, List.range_succ]
theorem pathTo_len (q : List (Ce × Int)) (t : Ce) (n : Nat) : (pathTo q t n).length = n := by simp [pathTo]
theorem pathTo_rev (q : List (Ce × Int)) (t : Ce) (n : Nat) : (pathTo q t (n + 1)).reverse = pth q t n :: (pathTo q t n).reverse := by rw [pathTo_succ]; simp
def shPath (q : List (Ce × Int)) (t : Ce) : List Ce := (pathTo q t ((dOf q t).toNat + 1)).reverse
def shBad (q : List (Ce × Int)) (y : Wy) : Bool := decide (nxt ⟨y.fx, y.fy⟩ y.sd ∈ shPath q ⟨y.tx, y.ty⟩) || decide (nxt ⟨y.tx, y.ty⟩ y.out ∈ shPath q ⟨y.tx, y.ty⟩)
def shC (q : List (Ce × Int)) (y : Wy) : Int := if dOf q ⟨y.tx, y.ty⟩ < 0 then 6 else if shBad q y = true then 4 else 0
def shL (q : List (Ce × Int)) (y : Wy) : List Ce := if dOf q ⟨y.tx, y.ty⟩ < 0 then [] else if shBad q y = true then [] else shPath q ⟨y.tx, y.ty⟩
def shCode (l : Bd) (y : Wy) : Int := if (vBd l && vWy l y) = true then shC (bfs l ⟨y.fx, y.fy⟩) y else 1
def shList (l : Bd) (y : Wy) : List Ce := if (vBd l && vWy l y) = true then shL (bfs l ⟨y.fx, y.fy⟩) y else []
theorem vWy_parts (l : Bd) (y : Wy) (h : vWy l y = true) : fr l ⟨y.fx, y.fy⟩ = true ∧ fr l ⟨y.tx, y.ty⟩ = true ∧ 0 ≤ y.sd ∧ y.sd ≤ 3 ∧ 0 ≤ y.out ∧ y.out ≤ 3 := by
  unfold vWy at h
  simp only [Bool.and_eq_true, inB, decide_eq_true_eq] at h
  obtain ⟨⟨⟨⟨h1, h2⟩, h3⟩, h4⟩, -⟩ := h
  exact ⟨h1, h2, h3.1, h3.2, h4.1, h4.2⟩
theorem shList_len (l : Bd) (y : Wy) : (shList l y).length ≤ 577 := by
  unfold shList
  split
  · rename_i h
    rw [Bool.and_eq_true] at h
    obtain ⟨h1, h2, h3, h4, -⟩ := vBd_bounds l h.1
    have hf := (vWy_parts l y h.2).1
    have hq := goodq_bq l ⟨y.fx, y.fy⟩ hf (4 * 600)
    have hl := bq_len l ⟨y.fx, y.fy⟩ hf (4 * 600) h2 h4
    have hb := dOf_bd l _ _ hq hl ⟨y.tx, y.ty⟩
    unfold shL
    split
    · simp
    · split
      · simp
      · unfold shPath
        rw [List.length_reverse, pathTo_len]
        unfold bfs
        omega
  · simp
end Go.Proofs.Ytoldmgpdcenmhaa
