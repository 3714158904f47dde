import Derived.Test.YtmeefmoblkiebaaGreatK1
import Derived.Laws.MakeOwn
import Derived.Deep.RegionHeld3
import Derived.Test.YtmeefmoblkiebaaGreatShf
import Derived.Deep.OwnRows
import Derived.Maps.OwnOps
import Derived.DeepKeys3
/- The run of a board, piece by piece (the reference): plain laws. -/
namespace Go.Proofs.YtmeefmoblkiebaaGreat
open Go.RowKit
set_option linter.unusedVariables false
set_option linter.unusedSimpArgs false
set_option maxHeartbeats 400000
set_option maxRecDepth 100000
/-- What is asked of a board and of pushes. -/
structure Good (ps : List Pc) (pl : List Pu) : Prop where
  nd : (ps.map Pc.at_).Nodup
  ce : ∀ k, k < ps.length → (ps.getD k default).at_.ok
  d1 : ∀ k, k < ps.length → 1 ≤ (ps.getD k default).d
  d9 : ∀ k, k < ps.length → (ps.getD k default).d ≤ 9
  t0 : ∀ p ∈ pl, 0 ≤ p.t
  t1 : ∀ p ∈ pl, p.t ≤ 1000
def nT (dn : List Bool) : Int := (dn.filter id).length
theorem nT_nonneg (dn : List Bool) : 0 ≤ nT dn := by unfold nT; omega
theorem nT_set : ∀ (dn : List Bool) (a : Nat), a < dn.length → dn.getD a false = false → nT (dn.set a true) = nT dn + 1 := by
  intro dn
  induction dn with
  | nil => intro a h; simp at h
  | cons b dn ih =>
    intro a h h0
    cases a with
    | zero =>
      have h1 : b = false := h0
      subst h1
      simp [nT]
    | succ a =>
      have h1 := ih a (by simpa using h) (by simpa using h0)
      unfold nT at h1 ⊢
      cases b <;> simp_all <;> omega
theorem nT_le (dn : List Bool) : nT dn ≤ dn.length := by
  unfold nT; have := List.length_filter_le id dn; omega
theorem getD_setB (dn : List Bool) (a k : Nat) (b : Bool) (ha : a < dn.length) : (dn.set a b).getD k false = if k = a then b else dn.getD k false := by
  rw [List.getD_eq_getElem?_getD, List.getD_eq_getElem?_getD, List.getElem?_set]
  by_cases h : a = k
  · rw [if_pos h, if_pos h.symm, if_pos (by omega)]; rfl
  · rw [if_neg h, if_neg (fun e => h e.symm)]
structure RunS (ps : List Pc) (pl : List Pu) (dn : List Bool) (fs nx : List Fa) : Prop where
  ld : dn.length = ps.length
  lf : fs.length = ps.length
  ln : nx.length = ps.length
  und : ∀ i, i < ps.length → dn.getD i false = false → fs.getD i default = faOf none
  isd : ∀ i, i < ps.length → dn.getD i false = true → fs.getD i default = nx.getD i default ∧ 0 ≤ (nx.getD i default).t
  best : ∀ i, i < ps.length → ∃ o, nx.getD i default = faOf o ∧ Least (fun m => m ∈ dueC ps pl fs i) o
  mono : ∀ i j, i < ps.length → j < ps.length → dn.getD i false = true → dn.getD j false = false → 0 ≤ (nx.getD j default).t → (nx.getD i default).t ≤ (nx.getD j default).t
  top : ∀ i, i < ps.length → (fs.getD i default).t ≤ 1000 + 9 * nT dn
theorem RunS.low {ps : List Pc} {pl : List Pu} {dn : List Bool} {fs nx : List Fa} (h : RunS ps pl dn fs nx) (i : Nat) (hi : i < ps.length) : -1 ≤ (fs.getD i default).t := by
  cases hd : dn.getD i false with
  | false => rw [h.und i hi hd]; show (-1 : Int) ≤ -1; omega
  | true => obtain ⟨e, g⟩ := h.isd i hi hd; rw [e]; omega
theorem RunS.nlow {ps : List Pc} {pl : List Pu} {dn : List Bool} {fs nx : List Fa} (G : Good ps pl) (h : RunS ps pl dn fs nx) (i : Nat) (hi : i < ps.length) : -1 ≤ (nx.getD i default).t ∧ (nx.getD i default).t ≤ 1009 + 9 * nT dn := by
  obtain ⟨o, e, hL⟩ := h.best i hi
  have hn := nT_nonneg dn
  cases o with
  | none => rw [e]; show (-1 : Int) ≤ -1 ∧ (-1 : Int) ≤ _; omega
  | some m =>
    have h1 := due_low ps pl fs h.lf G.t0 G.d1 h.low i m hL.1
    have h2 := due_top ps pl fs _ h.lf (by omega) G.t1 G.d9 h.top i m hL.1
    rw [e]
    show -1 ≤ m.1 ∧ m.1 ≤ _
    omega
/-- The end: nothing is left to fall. -/
theorem RunS.ok {ps : List Pc} {pl : List Pu} {dn : List Bool} {fs nx : List Fa} (G : Good ps pl) (h : RunS ps pl dn fs nx) (hend : ∀ i, i < ps.length → dn.getD i false = false → (nx.getD i default).t < 0) : okFa ps pl fs := by
  refine okFa_least ps pl fs h.lf h.low fun i hi => ?_
  obtain ⟨o, e, hL⟩ := h.best i hi
  cases hd : dn.getD i false with
  | true => exact ⟨o, by rw [(h.isd i hi hd).1, e], hL⟩
  | false =>
    refine ⟨none, h.und i hi hd, ?_⟩
    cases o with
    | none => exact hL
    | some m =>
      have h1 := due_low ps pl fs h.lf G.t0 G.d1 h.low i m hL.1
      have h2 := hend i hi hd
      rw [e] at h2
      have h3 : m.1 < 0 := h2
      omega
/-- While the neighbours of the piece a that falls are told. -/
structure SideS (ps : List Pc) (pl : List Pu) (dn : List Bool) (fs nx : List Fa) (a : Nat) (s : Nat) (nx' : List Fa) : Prop where
  ln : nx'.length = ps.length
  old : ∀ i, i < ps.length → (dn.set a true).getD i false = true → nx'.getD i default = nx.getD i default
  new : ∀ i, i < ps.length → (dn.set a true).getD i false = false → ∃ o, nx'.getD i default = faOf o ∧ Least (fun m => m ∈ dueC ps pl fs i ∨ ∃ s', s' < s ∧ newC ps a (nx.getD a default) s' i m) o
theorem SideS.start {ps : List Pc} {pl : List Pu} {dn : List Bool} {fs nx : List Fa} (h : RunS ps pl dn fs nx) (a : Nat) : SideS ps pl dn fs nx a 0 nx := by
  refine ⟨h.ln, fun i hi _ => rfl, fun i hi _ => ?_⟩
  obtain ⟨o, e, hL⟩ := h.best i hi
  exact ⟨o, e, least_iff (fun m => ⟨.inl, fun hm => hm.elim id (fun ⟨s', hs, _⟩ => by omega)⟩) hL⟩
/-- A side over which nobody is told. -/
theorem SideS.skip {ps : List Pc} {pl : List Pu} {dn : List Bool} {fs nx nx' : List Fa} {a s : Nat} (h : SideS ps pl dn fs nx a s nx') (hno : ∀ i m, i < ps.length → (dn.set a true).getD i false = false → ¬ newC ps a (nx.getD a default) s i m) : SideS ps pl dn fs nx a (s + 1) nx' := by
  refine ⟨h.ln, h.old, fun i hi hd => ?_⟩
  obtain ⟨o, e, hL⟩ := h.new i hi hd
  refine ⟨o, e, least_iff (fun m => ?_) hL⟩
  constructor
  · rintro (h1 | ⟨s', h1, h2⟩)
    · exact .inl h1
    · exact .inr ⟨s', by omega, h2⟩
  · rintro (h1 | ⟨s', h1, h2⟩)
    · exact .inl h1
    · rcases Nat.lt_succ_iff_lt_or_eq.1 h1 with h3 | rfl
      · exact .inr ⟨s', h3, h2⟩
      · exact absurd h2 (hno i m hi hd)
/-- A side over which the piece k is told. -/
theorem SideS.tell {ps : List Pc} {pl : List Pu} {dn : List Bool} {fs nx nx' : List Fa} {a s k : Nat} (h : SideS ps pl dn fs nx a s nx') (hk : k < ps.length) (hdk : (dn.set a true).getD k false = false)
    (hbit : max (hitsV (ps.getD a default).k (ps.getD a default).t (nx.getD a default).f) 0 / 2 ^ s % 2 = 1) (hf : fnd (nxt (ps.getD a default).at_ (s : Int)) ps = (k : Int))
    (hcan : 0 ≤ hitsV (ps.getD k default).k (ps.getD k default).t (((s : Int) + 2) % 4)) (o : Option Ht) (ho : nx'.getD k default = faOf o) (hT : ∀ m, o = some m → 0 ≤ m.1) (f' : Fa)
    (hf' : f' = faOf (stepH o ((nx.getD a default).t + (ps.getD a default).d, ((s : Int) + 2) % 4, (a : Int)))) (hL0 : Least (fun m => m ∈ dueC ps pl fs k ∨ ∃ s', s' < s ∧ newC ps a (nx.getD a default) s' k m) o) : SideS ps pl dn fs nx a (s + 1) (nx'.set k f') := by
  refine ⟨by rw [List.length_set]; exact h.ln, fun i hi hd => ?_, fun i hi hd => ?_⟩
  · rw [getD_set nx' k i f' (by rw [h.ln]; exact hk)]
    by_cases hik : i = k
    · subst hik; rw [hdk] at hd; cases hd
    · rw [if_neg hik]; exact h.old i hi hd
  · rw [getD_set nx' k i f' (by rw [h.ln]; exact hk)]
    by_cases hik : i = k
    · subst hik
      rw [if_pos rfl]
      refine ⟨_, hf', least_iff (fun m => ?_) (least_add _ hL0)⟩
      constructor
      · rintro ((h1 | ⟨s', h1, h2⟩) | h1)
        · exact .inl h1
        · exact .inr ⟨s', by omega, h2⟩
        · exact .inr ⟨s, by omega, hbit, hf, by rw [h1]; unfold canH; exact decide_eq_true hcan, h1⟩
      · rintro (h1 | ⟨s', h1, h2⟩)
        · exact .inl (.inl h1)
        · rcases Nat.lt_succ_iff_lt_or_eq.1 h1 with h3 | rfl
          · exact .inl (.inr ⟨s', h3, h2⟩)
          · exact .inr h2.2.2.2
    · rw [if_neg hik]
      obtain ⟨o', e, hL⟩ := h.new i hi hd
      refine ⟨o', e, least_iff (fun m => ?_) hL⟩
      constructor
      · rintro (h1 | ⟨s', h1, h2⟩)
        · exact .inl h1
        · exact .inr ⟨s', by omega, h2⟩
      · rintro (h1 | ⟨s', h1, h2⟩)
        · exact .inl h1
        · rcases Nat.lt_succ_iff_lt_or_eq.1 h1 with h3 | rfl
          · exact .inr ⟨s', h3, h2⟩
          · have := h2.2.1
            rw [hf] at this
            exact absurd (by omega) hik
/-- The piece a has fallen, and its neighbours are told. -/
theorem SideS.done {ps : List Pc} {pl : List Pu} {dn : List Bool} {fs nx nx' : List Fa} {a : Nat} (G : Good ps pl) (h0 : RunS ps pl dn fs nx) (ha : a < ps.length) (hda : dn.getD a false = false) (hta : 0 ≤ (nx.getD a default).t)
    (hmin : ∀ j, j < ps.length → dn.getD j false = false → 0 ≤ (nx.getD j default).t → (nx.getD a default).t ≤ (nx.getD j default).t) (h : SideS ps pl dn fs nx a 4 nx') : RunS ps pl (dn.set a true) (fs.set a (nx.getD a default)) nx' := by
  have hal : a < dn.length := by rw [h0.ld]; exact ha
  have hfa : (fs.getD a default).t = -1 := by rw [h0.und a ha hda]; rfl
  have hfall : ∀ i, i < ps.length → ∀ m, m ∈ dueC ps pl (fs.set a (nx.getD a default)) i ↔ m ∈ dueC ps pl fs i ∨ ∃ s : Nat, s < 4 ∧ newC ps a (nx.getD a default) s i m :=
    fun i hi m => dueC_fall ps pl fs a _ G.nd G.ce h0.lf ha hfa (by omega) i hi m
  have hda' := G.d1 a ha
  have hdone : ∀ i, i < ps.length → (dn.set a true).getD i false = true → nx'.getD i default = nx.getD i default ∧ 0 ≤ (nx.getD i default).t ∧ (nx.getD i default).t ≤ (nx.getD a default).t := by
    intro i hi hd
    refine ⟨h.old i hi hd, ?_⟩
    rw [getD_setB dn a i true hal] at hd
    by_cases hia : i = a
    · subst hia; omega
    · rw [if_neg hia] at hd
      exact ⟨(h0.isd i hi hd).2, h0.mono i a hi ha hd hda hta⟩
  have hnd' : ∀ i, (dn.set a true).getD i false = false → i ≠ a ∧ dn.getD i false = false := by
    intro i hd
    rw [getD_setB dn a i true hal] at hd
    by_cases hia : i = a
    · rw [if_pos hia] at hd; cases hd
    · rw [if_neg hia] at hd; exact ⟨hia, hd⟩
  refine ⟨by rw [List.length_set]; exact h0.ld, by rw [List.length_set]; exact h0.lf, h.ln, ?_, ?_, ?_, ?_, ?_⟩
  · intro i hi hd
    obtain ⟨hia, hd'⟩ := hnd' i hd
    rw [getD_set fs a i _ (by rw [h0.lf]; exact ha), if_neg hia]
    exact h0.und i hi hd'
  · intro i hi hd
    obtain ⟨e1, e2, e3⟩ := hdone i hi hd
    rw [e1]
    refine ⟨?_, e2⟩
    rw [getD_set fs a i _ (by rw [h0.lf]; exact ha)]
    rw [getD_setB dn a i true hal] at hd
    by_cases hia : i = a
    · rw [if_pos hia, hia]
    · rw [if_neg hia] at hd ⊢
      exact (h0.isd i hi hd).1
  · intro i hi
    cases hd : (dn.set a true).getD i false with
    | true =>
      obtain ⟨e1, e2, e3⟩ := hdone i hi hd
      obtain ⟨o, e, hL⟩ := h0.best i hi
      refine ⟨o, by rw [e1, e], ?_⟩
      cases o with
      | none => rw [e] at e2; have e4 : (0 : Int) ≤ -1 := e2; omega
      | some m =>
        have e4 : m.1 ≤ (nx.getD a default).t := by rw [e] at e3; exact e3
        refine least_late hL (fun x hx => (hfall i hi x).2 (.inl hx)) (fun x hx => ?_)
        rcases (hfall i hi x).1 hx with h1 | ⟨s, hs, h1⟩
        · exact .inl h1
        · right
          rw [h1.2.2.2]
          show m.1 < (nx.getD a default).t + (ps.getD a default).d
          omega
    | false =>
      obtain ⟨o, e, hL⟩ := h.new i hi hd
      exact ⟨o, e, least_iff (fun m => (hfall i hi m).symm) hL⟩
  · intro i j hi hj hd1 hd2 hj0
    obtain ⟨e1, e2, e3⟩ := hdone i hi hd1
    obtain ⟨hja, hdj⟩ := hnd' j hd2
    rw [e1]
    refine Int.le_trans e3 ?_
    obtain ⟨o, e, hL⟩ := h.new j hj hd2
    cases o with
    | none => rw [e] at hj0; have e4 : (0 : Int) ≤ -1 := hj0; omega
    | some m =>
      rw [e]
      show (nx.getD a default).t ≤ m.1
      rcases hL.1 with h1 | ⟨s, hs, h1⟩
      · obtain ⟨o', e', hL'⟩ := h0.best j hj
        cases o' with
        | none => exact absurd h1 (hL' m)
        | some m' =>
          have h2 := hL'.2 m h1
          have h3 := due_low ps pl fs h0.lf G.t0 G.d1 h0.low j m' hL'.1
          have h4 := hmin j hj hdj (by rw [e']; exact h3)
          rw [e'] at h4
          have h5 : (nx.getD a default).t ≤ m'.1 := h4
          rw [Bool.eq_false_iff, ne_eq, ltH_iff] at h2
          omega
      · rw [h1.2.2.2]
        show (nx.getD a default).t ≤ (nx.getD a default).t + (ps.getD a default).d
        omega
  · intro i hi
    have h1 := (h0.nlow G a ha).2
    rw [nT_set dn a hal hda, getD_set fs a i _ (by rw [h0.lf]; exact ha)]
    by_cases hia : i = a
    · rw [if_pos hia]; omega
    · rw [if_neg hia]; have := h0.top i hi; omega
end Go.Proofs.YtmeefmoblkiebaaGreat
/- The run of a board (the reference): what pushes give at the start. -/
namespace Go.Proofs.YtmeefmoblkiebaaGreat
open Go.RowKit
set_option linter.unusedVariables false
set_option linter.unusedSimpArgs false
set_option maxHeartbeats 400000
set_option maxRecDepth 100000
/-- What comes next of each piece, by pushes alone. -/
def oP (ps : List Pc) (pl : List Pu) (i : Nat) : Option Ht := bestH (dueL ps pl [] i 0)
def nxP (ps : List Pc) (pl : List Pu) : List Fa := (List.range ps.length).map fun i => faOf (oP ps pl i)
theorem nxP_len (ps : List Pc) (pl : List Pu) : (nxP ps pl).length = ps.length := by simp [nxP]
theorem nxP_get (ps : List Pc) (pl : List Pu) (i : Nat) (h : i < ps.length) : (nxP ps pl).getD i default = faOf (oP ps pl i) := by
  rw [List.getD_eq_getElem?_getD]; simp [nxP, h]
theorem nxP_nil (ps : List Pc) : nxP ps [] = List.replicate ps.length (faOf none) := by
  apply List.ext_getElem
  · simp [nxP]
  · intro i h1 h2
    simp only [nxP, List.getElem_map, List.getElem_range, List.getElem_replicate]
    rfl
theorem oP_push (ps : List Pc) (pl : List Pu) (p : Pu) (hnd : (ps.map Pc.at_).Nodup) (k : Nat) (hk : k < ps.length) (hf : fnd ⟨p.x, p.y⟩ ps = (k : Int)) (i : Nat) (hi : i < ps.length) :
    oP ps (pl ++ [p]) i = if i = k then (if 0 ≤ hitsV (ps.getD k default).k (ps.getD k default).t p.s then stepH (oP ps pl k) (p.t, p.s, -1) else oP ps pl k) else oP ps pl i := by
  unfold oP
  rw [dueL_push]
  obtain ⟨_, hk2⟩ := (fnd_iff ps hnd _ _).1 hf
  by_cases hik : i = k
  · subst hik
    rw [if_pos rfl, if_pos (by rw [getD_pc ps i hi]; exact hk2.symm)]
    by_cases h : 0 ≤ hitsV (ps.getD i default).k (ps.getD i default).t p.s
    · rw [if_pos h, if_pos h, bestH_snoc]
    · rw [if_neg h, if_neg h, List.append_nil]
  · rw [if_neg hik, if_neg, List.append_nil]
    intro e
    have := (fnd_iff ps hnd ⟨p.x, p.y⟩ i).2 ⟨hi, by rw [← getD_pc ps i hi]; exact e.symm⟩
    omega
theorem nxP_push (ps : List Pc) (pl : List Pu) (p : Pu) (hnd : (ps.map Pc.at_).Nodup) (k : Nat) (hk : k < ps.length) (hf : fnd ⟨p.x, p.y⟩ ps = (k : Int)) :
    nxP ps (pl ++ [p]) = if 0 ≤ hitsV (ps.getD k default).k (ps.getD k default).t p.s then (nxP ps pl).set k (faOf (stepH (oP ps pl k) (p.t, p.s, -1))) else nxP ps pl := by
  have key : ∀ xs : List Fa, xs.length = ps.length → (∀ i, i < ps.length → xs.getD i default = faOf (oP ps (pl ++ [p]) i)) → nxP ps (pl ++ [p]) = xs := by
    intro xs h1 h2
    apply List.ext_getElem
    · rw [nxP_len, h1]
    · intro i h3 h4
      have h5 : i < ps.length := by rw [← h1]; exact h4
      rw [← getD_fa _ i h3, ← getD_fa _ i h4, h2 i h5, nxP_get ps _ i h5]
  by_cases h : 0 ≤ hitsV (ps.getD k default).k (ps.getD k default).t p.s
  · rw [if_pos h]
    apply key
    · rw [List.length_set, nxP_len]
    · intro i hi
      rw [getD_set _ _ _ _ (by rw [nxP_len]; exact hk), oP_push ps pl p hnd k hk hf i hi, if_pos h]
      by_cases hik : i = k
      · rw [if_pos hik, if_pos hik]
      · rw [if_neg hik, if_neg hik, nxP_get ps pl i hi]
  · rw [if_neg h]
    apply key
    · rw [nxP_len]
    · intro i hi
      rw [oP_push ps pl p hnd k hk hf i hi, if_neg h, nxP_get ps pl i hi]
      by_cases hik : i = k
      · rw [if_pos hik, hik]
      · rw [if_neg hik]
theorem getD_rep {α : Type} (n i : Nat) (x d : α) (h : i < n) : (List.replicate n x).getD i d = x := by
  rw [List.getD_eq_getElem?_getD, List.getElem?_replicate, if_pos h]; rfl
theorem RunS.start (ps : List Pc) (pl : List Pu) : RunS ps pl (List.replicate ps.length false) (List.replicate ps.length (faOf none)) (nxP ps pl) := by
  have hT : ∀ i, i < ps.length → ((List.replicate ps.length (faOf none)).getD i default).t = -1 := by
    intro i hi; rw [getD_rep _ _ _ _ hi]; rfl
  refine ⟨by simp, by simp, nxP_len ps pl, fun i hi _ => getD_rep _ _ _ _ hi, fun i hi h => ?_, fun i hi => ?_, fun i j hi _ h => ?_, fun i hi => ?_⟩
  · rw [getD_rep _ _ _ _ hi] at h; cases h
  · refine ⟨oP ps pl i, nxP_get ps pl i hi, least_iff (fun m => ?_) (least_best _)⟩
    rw [cand_mem]
    unfold dueL
    have e0 : candN ps [] i 0 = [] := rfl
    rw [e0, List.append_nil, List.mem_filter]
    constructor
    · rintro ⟨h1, h2⟩; exact ⟨h2, .inl h1⟩
    · rintro ⟨h1, h2 | ⟨s, hs, h2⟩⟩
      · exact ⟨h2, h1⟩
      · obtain ⟨k, hk, -, h3, -⟩ := candN1_some ps _ i s m h2 (by simp)
        exact absurd (hT k hk) h3
  · rw [getD_rep _ _ _ _ hi] at h; cases h
  · rw [hT i hi]; have := nT_nonneg (List.replicate ps.length false); omega
end Go.Proofs.YtmeefmoblkiebaaGreat
/- Falls as values of the language: equality. -/
namespace Go.Proofs.YtmeefmoblkiebaaGreat
open Go.RowKit
set_option maxHeartbeats 400000
set_option maxRecDepth 100000
end Go.Proofs.YtmeefmoblkiebaaGreat
/- Contracts: slices of Fall, element for element. -/
namespace Go.Proofs.YtmeefmoblkiebaaGreat
open Go.RowKit
set_option linter.unusedVariables false
set_option linter.unusedSimpArgs false
set_option maxHeartbeats 400000
set_option maxRecDepth 100000

theorem Tryz.infoFall : (Tryz.prog.info? 43).map (fun i => (i.zero, i.size, i.bytes)) = some (some (.agg #[.int .i64 0, .int .i8 0, .int .i64 0]), 3, 24) := by kernel_rfl
end Go.Proofs.YtmeefmoblkiebaaGreat
/- Contracts: the first wrong fall (the reference). -/
namespace Go.Proofs.YtmeefmoblkiebaaGreat
open Go.RowKit
set_option linter.unusedVariables false
set_option linter.unusedSimpArgs false
set_option maxHeartbeats 400000
set_option maxRecDepth 100000
theorem SlAt.wide {B B' : Nat} {w : World} {a : Option Addr} {xs : List Value} (h : SlAt B w a xs) (hB : B ≤ B') : SlAt B' w a xs := by
  intro j hj
  obtain ⟨b, off, h1, h2, h3⟩ := h j hj
  exact ⟨b, off, h1, Nat.lt_of_lt_of_le h2 hB, h3⟩
end Go.Proofs.YtmeefmoblkiebaaGreat
/- Three rows of the reference's run: what is done, what has fallen, what comes next. -/
namespace Go.Proofs.YtmeefmoblkiebaaGreat
open Go.RowKit
set_option linter.unusedVariables false
set_option linter.unusedSimpArgs false
set_option maxHeartbeats 400000
set_option maxRecDepth 100000
def BoC (b : Bool) : List Value := [.bool b]
theorem flat_bo (xs : List Bool) : flat BoC xs = xs.map Value.bool := by
  induction xs with
  | nil => rfl
  | cons x xs ih => rw [flat_cons, ih]; rfl
theorem rep_set {α : Type} (N j : Nat) (h : j < N) (x z : α) : (List.replicate j x ++ List.replicate (N - j) z).set j x = List.replicate (j + 1) x ++ List.replicate (N - (j + 1)) z := by
  apply List.ext_getElem
  · simp; omega
  · intro i h1 h2
    simp only [List.getElem_set, List.getElem_append, List.length_replicate, List.getElem_replicate]
    by_cases e : j = i
    · subst e; simp
    · by_cases e2 : i < j
      · simp [e, e2, show i < j + 1 by omega]
      · simp [e, e2, show ¬ i < j + 1 by omega]
theorem flat_set {α : Type} {f : α → List Value} {s : Nat} (hs : ∀ x, (f x).length = s) (xs : List α) (i : Nat) (h : i < xs.length) (x : α) : flat f (xs.set i x) = flat f (xs.take i) ++ f x ++ (flat f (xs.drop i)).drop s := by
  rw [List.set_eq_take_append_cons_drop, if_pos h, flat_append, flat_cons, List.drop_eq_getElem_cons h, flat_cons, List.append_assoc, List.drop_append_of_le_length (by rw [hs]; exact Nat.le_refl _)]
  have : (f xs[i]).drop s = [] := by apply List.drop_of_length_le; rw [hs]; exact Nat.le_refl _
  rw [this, List.nil_append]
theorem own_faSet {w : World} {base e g n cap : Nat} {fs : List Fa} (h : w.ownsRow base e 3 (.slice (some ⟨g, 0, none⟩) n cap) n (flat Fa.cells fs)) (hl : fs.length = n) (i : Nat) (hi : i < n) (f : Fa) :
    (setCells w g (i * 3) f.cells).ownsRow base e 3 (.slice (some ⟨g, 0, none⟩) n cap) n (flat Fa.cells (fs.set i f)) := by
  have e1 : flat Fa.cells fs = flat Fa.cells (fs.take i) ++ flat Fa.cells (fs.drop i) := by rw [← flat_append, List.take_append_drop]
  rw [e1] at h
  have h2 := own_setCells f.cells h (j := i * 3) (by rw [flat_length Fa.len, List.length_take]; congr 1; omega) (by rw [flat_length Fa.len, List.length_drop, Fa.len]; omega)
  rw [flat_set Fa.len fs i (by omega) f]
  exact h2
theorem own_faAt3 {w : World} {base e g n cap : Nat} {fs : List Fa} (h : w.ownsRow base e 3 (.slice (some ⟨g, 0, none⟩) n cap) n (flat Fa.cells fs)) (hl : fs.length = n) (i : Nat) (hi : i < n) : FaAt w g (i * 3) (fs.getD i default) := by
  rw [getD_fa fs i (by omega)]
  have hg := fun c (hc : c < 3) => flat_get Fa.len fs i c (by omega) hc
  refine ⟨?_, ?_, ?_⟩
  · rw [h.cellAt _ (by omega)]; exact hg 0 (by omega)
  · rw [h.cellAt _ (by omega)]; exact hg 1 (by omega)
  · rw [h.cellAt _ (by omega)]; exact hg 2 (by omega)
structure T3 (B g0 g1 g2 N : Nat) (wr : World) (dn : List Bool) (fs nx : List Fa) : Prop where
  d : wr.ownsRow B 4 1 (.slice (some ⟨g0, 0, none⟩) N N) N (flat BoC dn)
  f : wr.ownsRow B 43 3 (.slice (some ⟨g1, 0, none⟩) N N) N (flat Fa.cells fs)
  x : wr.ownsRow B 43 3 (.slice (some ⟨g2, 0, none⟩) N N) N (flat Fa.cells nx)
  ld : dn.length = N
  lf : fs.length = N
  lx : nx.length = N
  n01 : g0 ≠ g1
  n02 : g0 ≠ g2
  n12 : g1 ≠ g2
section
variable {B g0 g1 g2 N : Nat} {w w' : World} {dn : List Bool} {fs nx : List Fa}
theorem T3.step (h : T3 B g0 g1 g2 N w dn fs nx) (hb : Below w.heap.size w w') : T3 B g0 g1 g2 N w' dn fs nx :=
  ⟨own_below h.d hb (Nat.le_refl _), own_below h.f hb (Nat.le_refl _), own_below h.x hb (Nat.le_refl _), h.ld, h.lf, h.lx, h.n01, h.n02, h.n12⟩
theorem own_far {w w' : World} {base e s g n cap k : Nat} {xs : List Value} (h : w.ownsRow base e s (.slice (some ⟨g, 0, none⟩) n cap) n xs) (hg : w.grownBy w' (some k)) (hne : g ≠ k) : w'.ownsRow base e s (.slice (some ⟨g, 0, none⟩) n cap) n xs :=
  own_kept h hg (fun q hq e => by have h9 : some g = some q := hq; rw [← h9] at e; simp at e; exact hne e)
theorem T3.setD (h : T3 B g0 g1 g2 N w dn fs nx) (i : Nat) (b : Bool) : T3 B g0 g1 g2 N (w.setCell ⟨g0, i, none⟩ (.bool b)) (dn.set i b) fs nx := by
  have hg := (h.d.stored i (.bool b)).2
  refine ⟨?_, own_far h.f hg (fun e => h.n01 e.symm), own_far h.x hg (fun e => h.n02 e.symm), by rw [List.length_set]; exact h.ld, h.lf, h.lx, h.n01, h.n02, h.n12⟩
  have := (h.d.stored i (.bool b)).1
  rw [flat_bo] at this ⊢
  rwa [List.map_set]
theorem T3.setF (h : T3 B g0 g1 g2 N w dn fs nx) (i : Nat) (hi : i < N) (f : Fa) : T3 B g0 g1 g2 N (setCells w g1 (i * 3) f.cells) dn (fs.set i f) nx := by
  have hg := grown_setCells g1 f.cells w (i * 3)
  exact ⟨own_far h.d hg h.n01, own_faSet h.f h.lf i hi f, own_far h.x hg (fun e => h.n12 e.symm), h.ld, by rw [List.length_set]; exact h.lf, h.lx, h.n01, h.n02, h.n12⟩
theorem T3.setX (h : T3 B g0 g1 g2 N w dn fs nx) (i : Nat) (hi : i < N) (f : Fa) : T3 B g0 g1 g2 N (setCells w g2 (i * 3) f.cells) dn fs (nx.set i f) := by
  have hg := grown_setCells g2 f.cells w (i * 3)
  exact ⟨own_far h.d hg h.n02, own_far h.f hg h.n12, own_faSet h.x h.lx i hi f, h.ld, h.lf, by rw [List.length_set]; exact h.lx, h.n01, h.n02, h.n12⟩
theorem T3.dAt (h : T3 B g0 g1 g2 N w dn fs nx) (i : Nat) (hi : i < N) : w.cell? ⟨g0, i, none⟩ = some (.bool (dn.getD i false)) := by
  rw [h.d.cellAt i (by omega), flat_bo, List.getElem?_map, List.getElem?_eq_getElem (by rw [h.ld]; exact hi), List.getD_eq_getElem?_getD, List.getElem?_eq_getElem (by rw [h.ld]; exact hi)]
  rfl
theorem T3.fAt (h : T3 B g0 g1 g2 N w dn fs nx) (i : Nat) (hi : i < N) : FaAt w g1 (i * 3) (fs.getD i default) := own_faAt3 h.f h.lf i hi
theorem T3.xAt (h : T3 B g0 g1 g2 N w dn fs nx) (i : Nat) (hi : i < N) : FaAt w g2 (i * 3) (nx.getD i default) := own_faAt3 h.x h.lx i hi
/-- What may be stored to. -/
theorem T3.dS (h : T3 B g0 g1 g2 N w dn fs nx) (i : Nat) (hi : i < N) : (∃ v, w.cell? ⟨g0, i, none⟩ = some v) ∧ w.frozen? ⟨g0, i, none⟩ = false := own_cell h.d (by omega)
theorem T3.fS (h : T3 B g0 g1 g2 N w dn fs nx) (i : Nat) (hi : i < N) (c : Nat) (hc : c < 3) : (∃ v, w.cell? ⟨g1, i * 3 + c, none⟩ = some v) ∧ w.frozen? ⟨g1, i * 3 + c, none⟩ = false := own_cell h.f (by omega)
theorem T3.xS (h : T3 B g0 g1 g2 N w dn fs nx) (i : Nat) (hi : i < N) (c : Nat) (hc : c < 3) : (∃ v, w.cell? ⟨g2, i * 3 + c, none⟩ = some v) ∧ w.frozen? ⟨g2, i * 3 + c, none⟩ = false := own_cell h.x (by omega)
theorem T3.lt (h : T3 B g0 g1 g2 N w dn fs nx) : B ≤ g0 ∧ B ≤ g1 ∧ B ≤ g2 ∧ g0 < w.heap.size ∧ g1 < w.heap.size ∧ g2 < w.heap.size := ⟨(h.d.lt _ rfl).1, (h.f.lt _ rfl).1, (h.x.lt _ rfl).1, (h.d.lt _ rfl).2, (h.f.lt _ rfl).2, (h.x.lt _ rfl).2⟩
end
/-- How many are not done, by what the memory holds. -/
def undone (w : World) (g N : Nat) : Nat := (List.range N).countP fun j => match w.cell? ⟨g, j, none⟩ with | some (.bool false) => true | _ => false
theorem count_false : ∀ dn : List Bool, ((List.range dn.length).countP (fun j => !dn.getD j false) : Int) = dn.length - nT dn := by
  intro dn
  induction dn with
  | nil => rfl
  | cons b dn ih =>
    rw [List.length_cons, List.range_succ_eq_map, List.countP_cons, List.countP_map]
    have e : ((fun j => !(b :: dn).getD j false) ∘ Nat.succ) = fun j => !dn.getD j false := by funext j; simp
    rw [e]
    unfold nT at ih ⊢
    cases b <;> simp at ih ⊢ <;> omega
theorem T3.undone {B g0 g1 g2 N : Nat} {w : World} {dn : List Bool} {fs nx : List Fa} (h : T3 B g0 g1 g2 N w dn fs nx) : (undone w g0 N : Int) = N - nT dn := by
  rw [← h.ld, ← count_false]
  unfold Go.Proofs.YtmeefmoblkiebaaGreat.undone
  congr 1
  apply List.countP_congr
  intro j hj
  rw [List.mem_range] at hj
  rw [h.dAt j (by rw [← h.ld]; exact hj)]
  cases dn.getD j false <;> simp
theorem madeCells_fall (n : Nat) : (madeCells (Value.agg #[.int .i64 0, .int .i8 0, .int .i64 0]).cells (n * 3)).toList = flat Fa.cells (List.replicate n ⟨0, 0, 0⟩) := by
  apply List.ext_getElem?
  intro i
  by_cases h : i < n * 3
  · have h1 : i / 3 < n := by omega
    have h2 := flat_get Fa.len (List.replicate n (⟨0, 0, 0⟩ : Fa)) (i / 3) (i % 3) (by simpa using h1) (by omega)
    rw [show i / 3 * 3 + i % 3 = i by omega] at h2
    rw [h2, List.getElem_replicate]
    have h3 : i % 3 = 0 ∨ i % 3 = 1 ∨ i % 3 = 2 := by omega
    rcases h3 with e | e | e <;> (simp [madeCells, Value.cells, e, Fa.cells]; exact ⟨i, by simp [h], by rw [e]; rfl⟩)
  · have : (flat Fa.cells (List.replicate n (⟨0, 0, 0⟩ : Fa))).length ≤ i := by rw [flat_length Fa.len, List.length_replicate]; omega
    rw [List.getElem?_eq_none this, List.getElem?_eq_none (by simp [madeCells]; omega)]
theorem madeCells_bool (n : Nat) : (madeCells (Value.bool false).cells (n * 1)).toList = flat BoC (List.replicate n false) := by
  rw [flat_bo]
  apply List.ext_getElem
  · simp [madeCells]
  · intro i h1 h2
    simp [madeCells, Value.cells, Nat.mod_one]
end Go.Proofs.YtmeefmoblkiebaaGreat
/- The run of a board (the reference): plain laws of its inner loops. -/
namespace Go.Proofs.YtmeefmoblkiebaaGreat
open Go.RowKit
set_option linter.unusedVariables false
set_option linter.unusedSimpArgs false
set_option maxHeartbeats 400000
set_option maxRecDepth 100000
/-- What the search for the next piece knows of the first j. -/
def AtOk (dn : List Bool) (nx : List Fa) (j : Nat) (at_ : Int) : Prop :=
  (at_ = -1 ∧ ∀ i, i < j → dn.getD i false = false → (nx.getD i default).t < 0) ∨
  ∃ a : Nat, a < j ∧ at_ = (a : Int) ∧ dn.getD a false = false ∧ 0 ≤ (nx.getD a default).t ∧ ∀ i, i < j → dn.getD i false = false → 0 ≤ (nx.getD i default).t → (nx.getD a default).t ≤ (nx.getD i default).t
theorem AtOk.zero (dn : List Bool) (nx : List Fa) : AtOk dn nx 0 (-1) := .inl ⟨rfl, fun i hi => by omega⟩
theorem lt_succ {j i : Nat} (h : i < j + 1) : i < j ∨ i = j := Nat.lt_succ_iff_lt_or_eq.1 h
theorem AtOk.skipD {dn : List Bool} {nx : List Fa} {j : Nat} {at_ : Int} (h : AtOk dn nx j at_) (hd : dn.getD j false = true) : AtOk dn nx (j + 1) at_ := by
  rcases h with ⟨h1, h2⟩ | ⟨a, h1, h2, h3, h4, h5⟩
  · refine .inl ⟨h1, fun i hi hdi => ?_⟩
    rcases lt_succ hi with h | rfl
    · exact h2 i h hdi
    · rw [hd] at hdi; cases hdi
  · refine .inr ⟨a, by omega, h2, h3, h4, fun i hi hdi h0 => ?_⟩
    rcases lt_succ hi with h | rfl
    · exact h5 i h hdi h0
    · rw [hd] at hdi; cases hdi
theorem AtOk.skipX {dn : List Bool} {nx : List Fa} {j : Nat} {at_ : Int} (h : AtOk dn nx j at_) (hx : (nx.getD j default).t < 0) : AtOk dn nx (j + 1) at_ := by
  rcases h with ⟨h1, h2⟩ | ⟨a, h1, h2, h3, h4, h5⟩
  · refine .inl ⟨h1, fun i hi hdi => ?_⟩
    rcases lt_succ hi with h | rfl
    · exact h2 i h hdi
    · exact hx
  · refine .inr ⟨a, by omega, h2, h3, h4, fun i hi hdi h0 => ?_⟩
    rcases lt_succ hi with h | rfl
    · exact h5 i h hdi h0
    · omega
theorem AtOk.first {dn : List Bool} {nx : List Fa} {j : Nat} (h : ∀ i, i < j → dn.getD i false = false → (nx.getD i default).t < 0) (hd : dn.getD j false = false) (hx : 0 ≤ (nx.getD j default).t) : AtOk dn nx (j + 1) (j : Int) := by
  refine .inr ⟨j, by omega, rfl, hd, hx, fun i hi hdi h0 => ?_⟩
  rcases lt_succ hi with h' | rfl
  · have := h i h' hdi; omega
  · exact Int.le_refl _
theorem AtOk.less {dn : List Bool} {nx : List Fa} {j a : Nat} (h5 : ∀ i, i < j → dn.getD i false = false → 0 ≤ (nx.getD i default).t → (nx.getD a default).t ≤ (nx.getD i default).t) (hd : dn.getD j false = false) (hx : 0 ≤ (nx.getD j default).t) (hl : (nx.getD j default).t < (nx.getD a default).t) : AtOk dn nx (j + 1) (j : Int) := by
  refine .inr ⟨j, by omega, rfl, hd, hx, fun i hi hdi h0 => ?_⟩
  rcases lt_succ hi with h' | rfl
  · have := h5 i h' hdi h0; omega
  · exact Int.le_refl _
theorem AtOk.keep {dn : List Bool} {nx : List Fa} {j a : Nat} (h1 : a < j) (h3 : dn.getD a false = false) (h4 : 0 ≤ (nx.getD a default).t) (h5 : ∀ i, i < j → dn.getD i false = false → 0 ≤ (nx.getD i default).t → (nx.getD a default).t ≤ (nx.getD i default).t) (hl : ¬ (nx.getD j default).t < (nx.getD a default).t) : AtOk dn nx (j + 1) (a : Int) := by
  refine .inr ⟨a, by omega, rfl, h3, h4, fun i hi hdi h0 => ?_⟩
  rcases lt_succ hi with h' | rfl
  · exact h5 i h' hdi h0
  · omega
/-- From which sides hits come. -/
theorem due_side (ps : List Pc) (pl : List Pu) (fs : List Fa) (hp : ∀ p ∈ pl, 0 ≤ p.s ∧ p.s ≤ 3) (i : Nat) (m : Ht) (hm : m ∈ dueC ps pl fs i) : 0 ≤ m.2.1 ∧ m.2.1 ≤ 3 := by
  rw [cand_mem] at hm
  rcases hm.2 with h1 | ⟨s, hs, h1⟩
  · unfold candP at h1
    rw [List.mem_filterMap] at h1
    obtain ⟨p, hpm, h1⟩ := h1
    split at h1
    · simp only [Option.some.injEq] at h1
      rw [← h1]; exact hp p hpm
    · cases h1
  · unfold candN1 at h1
    simp only at h1
    split at h1
    · simp only [Option.some.injEq] at h1
      rw [← h1]; simp only; omega
    · cases h1
theorem due_can (ps : List Pc) (pl : List Pu) (fs : List Fa) (i : Nat) (m : Ht) (hm : m ∈ dueC ps pl fs i) : 0 ≤ hitsV (ps.getD i default).k (ps.getD i default).t m.2.1 := by
  rw [cand_mem] at hm
  have := hm.1
  unfold canH at this
  exact of_decide_eq_true this
/-- The piece that falls next. -/
theorem RunS.pick {ps : List Pc} {pl : List Pu} {dn : List Bool} {fs nx : List Fa} (G : Good ps pl) (hp : ∀ p ∈ pl, 0 ≤ p.s ∧ p.s ≤ 3) (h : RunS ps pl dn fs nx) (hlen : ps.length ≤ 200) (a : Nat) (ha : a < ps.length) (h0 : 0 ≤ (nx.getD a default).t) :
    0 ≤ hitsV (ps.getD a default).k (ps.getD a default).t (nx.getD a default).f ∧ 0 ≤ (nx.getD a default).f ∧ (nx.getD a default).f ≤ 3 ∧ (nx.getD a default).t ≤ 3000 := by
  obtain ⟨o, e, hL⟩ := h.best a ha
  cases o with
  | none => rw [e] at h0; have e4 : (0 : Int) ≤ -1 := h0; omega
  | some m =>
    rw [e]
    have h1 := due_side ps pl fs hp a m hL.1
    have h2 := due_can ps pl fs a m hL.1
    refine ⟨h2, h1.1, h1.2, ?_⟩
    have h3 := (h.nlow G a ha).2
    rw [e] at h3
    have h4 := nT_le dn
    rw [h.ld] at h4
    have h5 : m.1 ≤ 1009 + 9 * nT dn := h3
    show m.1 ≤ 3000
    omega
theorem RunS.max {ps : List Pc} {pl : List Pu} {dn : List Bool} {fs nx : List Fa} (h : RunS ps pl dn fs nx) (hlen : ps.length ≤ 200) (i : Nat) (hi : i < ps.length) : (fs.getD i default).t ≤ 3000 := by
  have h1 := h.top i hi
  have h4 := nT_le dn
  rw [h.ld] at h4
  omega
/-- What comes next of a piece that is not done. -/
theorem SideS.bd {ps : List Pc} {pl : List Pu} {dn : List Bool} {fs nx nx' : List Fa} {a s : Nat} (G : Good ps pl) (hp : ∀ p ∈ pl, 0 ≤ p.s ∧ p.s ≤ 3) (h0 : RunS ps pl dn fs nx) (ha : a < ps.length) (hta : 0 ≤ (nx.getD a default).t) (k : Nat) (o : Option Ht)
    (hL : Least (fun m => m ∈ dueC ps pl fs k ∨ ∃ s', s' < s ∧ newC ps a (nx.getD a default) s' k m) o) (m : Ht) (hm : o = some m) : 0 ≤ m.1 ∧ I8 m.2.1 := by
  subst hm
  rcases hL.1 with h1 | ⟨s', hs', h1⟩
  · have h2 := due_low ps pl fs h0.lf G.t0 G.d1 h0.low k m h1
    have h3 := due_side ps pl fs hp k m h1
    exact ⟨h2, by constructor <;> omega⟩
  · have h2 := G.d1 a ha
    rw [h1.2.2.2]
    refine ⟨?_, ?_, ?_⟩ <;> simp only <;> omega
theorem SideS.skipBit {ps : List Pc} {pl : List Pu} {dn : List Bool} {fs nx nx' : List Fa} {a s : Nat} (h : SideS ps pl dn fs nx a s nx') (hb : ¬ max (hitsV (ps.getD a default).k (ps.getD a default).t (nx.getD a default).f) 0 / 2 ^ s % 2 = 1) : SideS ps pl dn fs nx a (s + 1) nx' :=
  h.skip fun i m hi hd hc => hb hc.1
theorem SideS.skipNone {ps : List Pc} {pl : List Pu} {dn : List Bool} {fs nx nx' : List Fa} {a s : Nat} (h : SideS ps pl dn fs nx a s nx') (hb : fnd (nxt (ps.getD a default).at_ (s : Int)) ps < 0) : SideS ps pl dn fs nx a (s + 1) nx' :=
  h.skip fun i m hi hd hc => by have := hc.2.1; omega
theorem SideS.skipDone {ps : List Pc} {pl : List Pu} {dn : List Bool} {fs nx nx' : List Fa} {a s k : Nat} (h : SideS ps pl dn fs nx a s nx') (hf : fnd (nxt (ps.getD a default).at_ (s : Int)) ps = (k : Int)) (hd : (dn.set a true).getD k false = true) : SideS ps pl dn fs nx a (s + 1) nx' :=
  h.skip fun i m hi hdi hc => by
    have e := hc.2.1
    rw [hf] at e
    have : k = i := by omega
    subst this
    rw [hd] at hdi; cases hdi
theorem SideS.skipCan {ps : List Pc} {pl : List Pu} {dn : List Bool} {fs nx nx' : List Fa} {a s k : Nat} (h : SideS ps pl dn fs nx a s nx') (hf : fnd (nxt (ps.getD a default).at_ (s : Int)) ps = (k : Int)) (hc : ¬ 0 ≤ hitsV (ps.getD k default).k (ps.getD k default).t (((s : Int) + 2) % 4)) : SideS ps pl dn fs nx a (s + 1) nx' :=
  h.skip fun i m hi hdi hn => by
    have e := hn.2.1
    rw [hf] at e
    have : k = i := by omega
    subst this
    have h1 := hn.2.2.1
    rw [hn.2.2.2] at h1
    unfold canH at h1
    exact hc (of_decide_eq_true h1)
end Go.Proofs.YtmeefmoblkiebaaGreat
/- Contracts: the reference's run. -/
namespace Go.Proofs.YtmeefmoblkiebaaGreat
open Go.RowKit
set_option linter.unusedVariables false
set_option linter.unusedSimpArgs false
set_option maxHeartbeats 400000
set_option maxRecDepth 100000
theorem run_make_bool (n : Nat) (hn : n ≤ 100000) (w : World) : (Instr.makeSlice 142 (.int .i64 (n : Int)) (.int .i64 (n : Int))).run Tryz.prog w = .ok (.slice (some ⟨w.heap.size, 0, none⟩) n n) (w.alloc (.cells (madeCells (Value.bool false).cells (n * 1)) 4)) := by
  have hb : (Tryz.prog.info? 4).map (fun i => (i.zero, i.size, i.bytes)) = some (some (.bool false), 1, 1) := by kernel_rfl
  obtain ⟨i0, hi, hz0, hz1, hz2⟩ := info_parts hb
  have h := run_make (P := Tryz.prog) w 142 4 i0 (.bool false) Tryz.underlying142 hi hz0 .i64 .i64 n n (by omega) (by omega) (by rw [hz2]; omega) (by omega)
  rw [hz1] at h
  simpa using h
theorem run_make_fall (n : Nat) (hn : n ≤ 100000) (w : World) : (Instr.makeSlice 31 (.int .i64 (n : Int)) (.int .i64 (n : Int))).run Tryz.prog w = .ok (.slice (some ⟨w.heap.size, 0, none⟩) n n) (w.alloc (.cells (madeCells (Value.agg #[.int .i64 0, .int .i8 0, .int .i64 0]).cells (n * 3)) 43)) := by
  obtain ⟨i0, hi, hz0, hz1, hz2⟩ := info_parts Tryz.infoFall
  have h := run_make (P := Tryz.prog) w 31 43 i0 _ Tryz.underlying31 hi hz0 .i64 .i64 n n (by omega) (by omega) (by rw [hz2]; omega) (by omega)
  rw [hz1] at h
  simpa using h
theorem good_bd (l : Bd) (hv : vBd l = true) (pl : List Pu) (hpl : pl.all plainPu = true) : Good l.ps pl := by
  have hnd : (l.ps.map Pc.at_).Nodup := by
    have h9 := hv
    unfold vBd at h9
    simp only [Bool.and_eq_true, decide_eq_true_eq] at h9
    exact h9.2
  have hp : ∀ p ∈ pl, 0 ≤ p.t ∧ p.t ≤ 1000 := by
    intro p hp
    rw [List.all_eq_true] at hpl
    have := hpl p hp
    unfold plainPu inB at this
    simp only [Bool.and_eq_true, decide_eq_true_eq] at this
    exact this.2
  refine ⟨hnd, fun k hk => ?_, fun k hk => ?_, fun k hk => ?_, fun p h => (hp p h).1, fun p h => (hp p h).2⟩
  · rw [getD_pc l.ps k hk]
    have hc : 0 ≤ l.ps[k].x ∧ l.ps[k].x < 24 ∧ 0 ≤ l.ps[k].y ∧ l.ps[k].y < 24 := by
      obtain ⟨c1, c2, c3, c4, -⟩ := vBd_bounds l hv
      unfold vBd at hv
      simp only [Bool.and_eq_true] at hv
      have := hv.1.2
      rw [List.all_eq_true] at this
      have h5 := this _ (List.getElem_mem hk)
      simp only [Bool.and_eq_true] at h5
      have h6 := h5.2
      unfold cIn inB Pc.at_ at h6
      simp only [Bool.and_eq_true, decide_eq_true_eq] at h6
      omega
    constructor <;> constructor <;> simp only [Pc.at_] <;> omega
  · rw [getD_pc l.ps k hk]; exact (vBd_piece2 l hv k hk).2.2.2.2.1
  · rw [getD_pc l.ps k hk]; exact (vBd_piece2 l hv k hk).2.2.2.2.2
theorem oP_bd (ps : List Pc) (pl : List Pu) (i : Nat) (h : pl.all plainPu = true) (m : Ht) (hm : oP ps pl i = some m) : 0 ≤ m.1 ∧ I8 m.2.1 := by
  have h1 := bestH_mem _ m hm
  unfold dueL at h1
  rw [List.mem_filter, List.mem_append] at h1
  obtain ⟨h1 | h1, -⟩ := h1
  · unfold candP at h1
    rw [List.mem_filterMap] at h1
    obtain ⟨p, hp, hx⟩ := h1
    rw [List.all_eq_true] at h
    have h2 := h p hp
    unfold plainPu inB at h2
    simp only [Bool.and_eq_true, decide_eq_true_eq] at h2
    split at hx
    · simp only [Option.some.injEq] at hx
      rw [← hx]; exact ⟨h2.2.1, by constructor <;> simp only <;> omega⟩
    · cases hx
  · cases h1
theorem wrap8_side' (n : Int) (h0 : 0 ≤ n) (h3 : n ≤ 3) : IntKind.i8.wrap n = n := by
  have : n = 0 ∨ n = 1 ∨ n = 2 ∨ n = 3 := by omega
  rcases this with rfl | rfl | rfl | rfl <;> rfl
theorem set_same (xs : List Fa) (k : Nat) (h : k < xs.length) (x : Fa) (hx : xs.getD k default = x) : xs.set k x = xs := by
  rw [← hx, getD_fa xs k h, List.set_getElem_self]
theorem all_take2 {α : Type} (q : α → Bool) (xs : List α) (k : Nat) (h : xs.all q = true) : (xs.take k).all q = true := by
  rw [List.all_eq_true] at *
  exact fun x hx => h x (List.mem_of_mem_take hx)
set_option maxHeartbeats 3200000 in
theorem l02Run_any {B : Nat} (b0 : Nat) (l : Bd) (a : Option Addr) (cap : Nat) (pl : List Pu) (w : World) (hbp : BP w b0 l) (hv : vBd l = true) (h : SlAt B w a (flat Pu.cells pl)) (hok : PusOk pl) (hpl : pl.all plainPu = true) (hin : pl.all (fun p => decide (0 ≤ fnd ⟨p.x, p.y⟩ l.ps)) = true) (hn : pl.length ≤ 20) (hB : B ≤ w.heap.size) :
    Calls Tryz.prog 46 #[.pointer (some ⟨b0, 0, none⟩), .slice a pl.length cap] w fun e w' => ∃ v fs, e = .returned v ∧ w'.ownsRow w.heap.size 43 3 v fs.length (flat Fa.cells fs) ∧ okFa l.ps pl fs ∧ (∀ i, i < l.ps.length → (fs.getD i default).t ≤ 3000) ∧ Below w.heap.size w w' := by
  have HBP := Lib.hid hbp
  obtain ⟨hbl, sv, hbd, sa, scap, rfl, hps⟩ := hbp
  unfold BdAt at hbd
  obtain ⟨-, -, -, -, c5⟩ := vBd_bounds l hv
  have HG := Lib.hid (good_bd l hv pl hpl)
  have HPL := Lib.hid hpl
  have HIN := Lib.hid hin
  clear hpl hin
  have hmkB := run_make_bool l.ps.length (by omega)
  have hmkF := run_make_fall l.ps.length (by omega)
  obtain ⟨AB, hAB⟩ : ∃ A : Array Value, A = madeCells (Value.bool false).cells (l.ps.length * 1) := ⟨_, rfl⟩
  obtain ⟨AF, hAF⟩ : ∃ A : Array Value, A = madeCells (Value.agg #[.int .i64 0, .int .i8 0, .int .i64 0]).cells (l.ps.length * 3) := ⟨_, rfl⟩
  have HABs := Lib.hid (show AB.size = l.ps.length * 1 by rw [hAB]; exact size_madeCells _ _)
  have HAFs := Lib.hid (show AF.size = l.ps.length * 3 by rw [hAF]; exact size_madeCells _ _)
  have HABl := Lib.hid (show AB.toList = flat BoC (List.replicate l.ps.length false) by rw [hAB]; exact madeCells_bool _)
  have HAFl := Lib.hid (show AF.toList = flat Fa.cells (List.replicate l.ps.length ⟨0, 0, 0⟩) by rw [hAF]; exact madeCells_fall _)
  rw [← hAB] at hmkB
  rw [← hAF] at hmkF
  clear hAB hAF
  go_enter Tryz.func46, Tryz.ntmps46
  go_wp2
  have od := World.ownsRow_lit (base := w.heap.size) (e := 4) (size := 1) w AB l.ps.length (Nat.le_refl _) (by unfold maxLen; omega) HABs.out
  have of_ := World.ownsRow_lit (base := w.heap.size) (e := 43) (size := 3) (w.alloc (.cells AB 4)) AF l.ps.length (by simp) (by unfold maxLen; omega) HAFs.out
  have ox := World.ownsRow_lit (base := w.heap.size) (e := 43) (size := 3) ((w.alloc (.cells AB 4)).alloc (.cells AF 43)) AF l.ps.length (by simp; omega) (by unfold maxLen; omega) HAFs.out
  rw [HABl.out] at od
  rw [HAFl.out] at of_ ox
  simp only [World.size_alloc] at of_ ox
  have h0 : T3 w.heap.size w.heap.size (w.heap.size + 1) (w.heap.size + 1 + 1) l.ps.length (((w.alloc (.cells AB 4)).alloc (.cells AF 43)).alloc (.cells AF 43)) (List.replicate l.ps.length false) (List.replicate l.ps.length ⟨0, 0, 0⟩) (List.replicate l.ps.length ⟨0, 0, 0⟩) :=
    ⟨own_below od (bl_alloc (bl_alloc (Below.refl _ _))) (Nat.le_refl _), own_below of_ (bl_alloc (Below.refl _ _)) (Nat.le_refl _), ox, by simp, by simp, by simp, by omega, by omega, by omega⟩
  have hb0 : Below w.heap.size w (((w.alloc (.cells AB 4)).alloc (.cells AF 43)).alloc (.cells AF 43)) := (by repeat (first | with_reducible exact Below.refl _ _ | with_reducible assumption | with_reducible apply bl_drewN | with_reducible apply bl_drew | with_reducible apply bl_alloc | (with_reducible refine bl_set ?_ (by first | (simp; done) | (simp; omega)) _) | with_reducible refine bl_trans ?_ (by with_reducible assumption)))
  clear od of_ ox hmkB hmkF
  obtain ⟨W, hW⟩ : ∃ W, W = ((w.alloc (.cells AB 4)).alloc (.cells AF 43)).alloc (.cells AF 43) := ⟨_, rfl⟩
  rw [← hW] at h0 hb0 ⊢
  clear hW
  obtain ⟨g0, hg0⟩ : ∃ g, g = w.heap.size := ⟨_, rfl⟩
  obtain ⟨g1, hg1⟩ : ∃ g, g = w.heap.size + 1 := ⟨_, rfl⟩
  obtain ⟨g2, hg2⟩ : ∃ g, g = w.heap.size + 1 + 1 := ⟨_, rfl⟩
  have h1 : T3 w.heap.size g0 g1 g2 l.ps.length W (List.replicate l.ps.length false) (List.replicate l.ps.length ⟨0, 0, 0⟩) (List.replicate l.ps.length ⟨0, 0, 0⟩) := by rw [hg0, hg1, hg2]; exact h0
  rw [← hg2, ← hg1, ← hg0]
  have hw01 : w.heap.size ≤ g0 := by omega
  have hw02 : g0 ≤ w.heap.size := by omega
  clear h0 hg0 hg1 hg2
  go_loopw [9] (fun ix wr => ∃ j : Nat, j ≤ l.ps.length ∧ ix = .int .i64 j ∧ T3 w.heap.size g0 g1 g2 l.ps.length wr (List.replicate l.ps.length false) (List.replicate j (faOf none) ++ List.replicate (l.ps.length - j) ⟨0, 0, 0⟩) (List.replicate j (faOf none) ++ List.replicate (l.ps.length - j) ⟨0, 0, 0⟩) ∧ Below w.heap.size w wr) (fun ix _ => l.ps.length - (intOf ix).toNat)
  case atStart => exact ⟨0, by omega, rfl, by simpa using h1, hb0⟩
  case round =>
    clear h1 hb0
    obtain ⟨j, hj, rfl, h1, hb⟩ := hrel
    by_cases hlt : j < l.ps.length
    · have hjl : (j : Int) < l.ps.length := by omega
      obtain ⟨hl0, hl1, hl2, -, -, -⟩ := h1.lt
      go_wp2_with fail
      refine (l02None_any _).mono ?_
      rintro e w2 ⟨rfl, hb2⟩
      have H2 := Lib.hid (h1.step hb2)
      have hb02 := bl_trans hb hb2
      have HB02 := Lib.hid hb02
      have k0 := H2.out.fS j hlt 0 (by omega)
      rw [Nat.add_zero] at k0
      obtain ⟨⟨v0, c0⟩, f0⟩ := k0
      obtain ⟨⟨v1, c1⟩, f1⟩ := H2.out.fS j hlt 1 (by omega)
      obtain ⟨⟨v2, c2⟩, f2⟩ := H2.out.fS j hlt 2 (by omega)
      clear h1 hb hb2 hb02
      go_wp2_with fail
      refine (l02None_any _).mono ?_
      rintro e w3 ⟨rfl, hb3⟩
      have h3 := (H2.out.setF j hlt (faOf none)).step hb3
      rw [rep_set l.ps.length j hlt] at h3
      have hb03 : Below w.heap.size w w3 := bl_trans (bl_grown HB02.out (grown_setCells g1 (faOf none).cells w2 (j * 3)) (fun q hq => by cases hq; exact hl1)) hb3
      have H3 := Lib.hid h3
      have HB03 := Lib.hid hb03
      clear c0 c1 c2 f0 f1 f2 h3 hb03 hb3
      have k0 := H3.out.xS j hlt 0 (by omega)
      rw [Nat.add_zero] at k0
      obtain ⟨⟨v0, c0⟩, f0⟩ := k0
      obtain ⟨⟨v1, c1⟩, f1⟩ := H3.out.xS j hlt 1 (by omega)
      obtain ⟨⟨v2, c2⟩, f2⟩ := H3.out.xS j hlt 2 (by omega)
      go_wp2
      have h4 := H3.out.setX j hlt (faOf none)
      rw [rep_set l.ps.length j hlt] at h4
      have hb04 : Below w.heap.size w (setCells w3 g2 (j * 3) (faOf none).cells) := bl_grown HB03.out (grown_setCells g2 (faOf none).cells w3 (j * 3)) (fun q hq => by cases hq; exact hl2)
      clear c0 c1 c2 f0 f1 f2
      go_roundw
      case rel => exact ⟨j + 1, by omega, by go_num, h4, hb04⟩
      case measure => simp [intOf]; omega
    · have hjn : j = l.ps.length := by omega
      subst hjn
      rw [Nat.sub_self, List.replicate_zero, List.append_nil] at h1
      obtain ⟨W1, hW1⟩ : ∃ W1, W1 = wr := ⟨_, rfl⟩
      subst hW1
      go_wp2
      go_loopw [10] (fun ix wr => ∃ k : Nat, k ≤ pl.length ∧ ix = .int .i64 k ∧ T3 w.heap.size g0 g1 g2 l.ps.length wr (List.replicate l.ps.length false) (List.replicate l.ps.length (faOf none)) (nxP l.ps (pl.take k)) ∧ Below w.heap.size w wr) (fun ix _ => pl.length - (intOf ix).toNat)
      case atStart => exact ⟨0, by omega, rfl, by rw [List.take_zero, nxP_nil]; exact h1, hb⟩
      case round =>
        clear h1 hb
        obtain ⟨k, hk, rfl, h1, hb⟩ := hrel
        by_cases hlt : k < pl.length
        · obtain ⟨b, off, rfl, hbl2, hat⟩ := pus_get (h.below hb hB) hlt
          have hplj : plainPu pl[k] = true := by
            have := HPL.out
            rw [List.all_eq_true] at this
            exact this _ (List.getElem_mem hlt)
          unfold plainPu inB at hplj
          simp only [Bool.and_eq_true, decide_eq_true_eq] at hplj
          obtain ⟨⟨e1, e2⟩, e3, e4⟩ := hplj
          have hfin : 0 ≤ fnd ⟨pl[k].x, pl[k].y⟩ l.ps := by
            have := HIN.out
            rw [List.all_eq_true] at this
            simpa using this _ (List.getElem_mem hlt)
          have hkl := fnd_lt _ _ hfin
          obtain ⟨kn, hkn⟩ : ∃ kn : Nat, fnd ⟨pl[k].x, pl[k].y⟩ l.ps = (kn : Int) := ⟨(fnd ⟨pl[k].x, pl[k].y⟩ l.ps).toNat, by omega⟩
          rw [hkn, Int.toNat_natCast] at hkl
          have hgk := getD_pc l.ps kn hkl
          have htk : pl.take (k + 1) = pl.take k ++ [pl[k]] := List.take_succ_eq_append_getElem hlt
          have HP := Lib.hid (show nxP l.ps (pl.take (k + 1)) = _ from by rw [htk, nxP_push l.ps (pl.take k) pl[k] HG.out.nd kn hkl hkn])
          rw [hgk] at HP
          have hom := oP_bd l.ps (pl.take k) kn (all_take2 _ _ _ HPL.out)
          have hng := nxP_get l.ps (pl.take k) kn hkl
          obtain ⟨o, ho⟩ : ∃ o, o = oP l.ps (pl.take k) kn := ⟨_, rfl⟩
          rw [← ho] at HP hom hng
          clear ho htk hfin
          have s1 : IntKind.i64.wrap pl[k].s = pl[k].s := by rw [IntKind.wrap_i64]; omega
          have s2 : IntKind.i64.wrap pl[k].t = pl[k].t := by rw [IntKind.wrap_i64]; omega
          unfold PuAt at hat
          obtain ⟨bp, offp, hsa, hbp2, hatp⟩ := pcs_get hps hkl
          cases hsa
          obtain ⟨k1, k2, k3, k4, k5, k6⟩ := vBd_piece2 l hv kn hkl
          have HF := Lib.hid (l01Find_any b0 l ⟨pl[k].x, pl[k].y⟩ wr (HBP.out.step hb) (by omega))
          rw [hkn] at HF
          have hknl : (kn : Int) < l.ps.length := by omega
          obtain ⟨hl0, hl1, hl2, hm0, hm1, hm2⟩ := h1.lt
          clear hkn
          go_wp2_with fail
          refine HF.out.mono ?_
          rintro e w2 ⟨rfl, hb2⟩
          have H2 := Lib.hid (h1.step hb2)
          have hb02 := bl_trans hb hb2
          have HB02 := Lib.hid hb02
          have hz2 := hb2.size
          have hbw : b < w2.heap.size := by have := hb.size; omega
          have hbpw : bp < w2.heap.size := by have := hb02.size; omega
          have hb0w : b0 < w2.heap.size := by have := hb02.size; omega
          have hg2w : g2 < w2.heap.size := by omega
          have q1 : w2.cell? ⟨b, off + k * 4 + 2, none⟩ = some (.int .i8 pl[k].s) := by rw [hb2.cell (p := ⟨_, _, none⟩) (show b < wr.heap.size by have := hb.size; omega)]; exact hat.2.2.1
          have q2 : w2.cell? ⟨b, off + k * 4 + 3, none⟩ = some (.int .i16 pl[k].t) := by rw [hb2.cell (p := ⟨_, _, none⟩) (show b < wr.heap.size by have := hb.size; omega)]; exact hat.2.2.2
          have q3 : w2.cell? ⟨b0, 2, none⟩ = some (.slice (some ⟨bp, offp, none⟩) l.ps.length scap) := by rw [hb02.cell (p := ⟨_, _, none⟩) hbl]; exact hbd.2.2
          have HATP := Lib.hid (fun (w' : World) (h' : Below w.heap.size w w') => hatp.step h' hbp2)
          have HNG := Lib.hid hng
          have hHH : ∀ u : Ext w2, Calls Tryz.prog 105 #[.pointer (some ⟨bp, offp + kn * 5, none⟩), .int .i64 pl[k].s] u.w fun e w' => e = .returned (.int .i64 (hitsV l.ps[kn].k l.ps[kn].t pl[k].s)) ∧ Below u.w.heap.size u.w w' := fun u =>
            l01Hits_any l.ps[kn].x l.ps[kn].y l.ps[kn].k l.ps[kn].t l.ps[kn].d pl[k].s u.w bp (offp + kn * 5) (HATP.out _ (bl_trans HB02.out u.b)) (by have := u.b.size; omega) k1 k2 k3 k4 e1 e2
          have hHB : ∀ u : Ext w2, Calls Tryz.prog 106 #[.int .i64 pl[k].t, .int .i64 pl[k].s, .int .i64 (-1), .pointer (some ⟨g2, kn * 3, none⟩)] u.w fun e w' => e = .returned (.bool (betterV (pl[k].t, pl[k].s, -1) o)) ∧ u.w = w' := fun u =>
            l02Better_any pl[k].t pl[k].s (-1) g2 (kn * 3) o u.w (by have h9 := (H2.out.step u.b).xAt kn hkl; rw [hng] at h9; exact h9) hom
          generalize hitsV l.ps[kn].k l.ps[kn].t pl[k].s = hv' at hHH HP
          have HH := Lib.hid hHH
          clear hHH h1 hb hb2 hb02 hat hatp hng hom
          rcases dec_cases (0 ≤ hv') with ⟨c2, c2'⟩ | ⟨c2, c2'⟩
          · rw [if_pos c2'] at HP
            clear c2'
            rcases Bool.eq_false_or_eq_true (betterV (pl[k].t, pl[k].s, -1) o) with c3 | c3
            · rw [c3] at hHB
              have HBt := Lib.hid hHB
              rw [stepH_yes o _ c3] at HP
              clear hHB c3
              go_wp2
              (refine wp_region_ext (by kernel_rfl) (by kernel_rfl) ?_; have hX := @ext_cell; (repeat (go_big_quiet_step (first | (go_at_call 105; exact ext_call (HH.out _)) | (go_at_call 106; exact ext_same (HBt.out _))))); refine wpQuiet_nil ?_; clear hX; intro wx hw'; obtain ⟨⟨wx, hbx⟩, rfl⟩ := hw'; obtain ⟨hcx, hfx⟩ := bcell hbx)
              have r0 : wx.cell? ⟨b, off + k * 4 + 2, none⟩ = some (.int .i8 pl[k].s) := by rw [hbx.cell (p := ⟨_, _, none⟩) hbw]; exact q1
              have r1 : wx.cell? ⟨b, off + k * 4 + 3, none⟩ = some (.int .i16 pl[k].t) := by rw [hbx.cell (p := ⟨_, _, none⟩) hbw]; exact q2
              have H3 := Lib.hid ((H2.out.step hbx).step (bl_drew (Below.refl _ _)))
              have HB03 := Lib.hid (bl_drew (bl_trans HB02.out hbx))
              clear q1 q2 q3 hcx hfx
              go_upto_region 16 with fail
              go_still_tail 15, (by kernel_rfl)
              change wpList _ _ _ _ _ wx.drew
              obtain ⟨wy, hwy⟩ : ∃ wy, wy = wx.drew := ⟨_, rfl⟩
              rw [← hwy] at H3 HB03 ⊢
              clear hwy
              have k0 := H3.out.xS kn hkl 0 (by omega)
              rw [Nat.add_zero] at k0
              obtain ⟨⟨v0, c0⟩, f0⟩ := k0
              obtain ⟨⟨v1, c1⟩, f1⟩ := H3.out.xS kn hkl 1 (by omega)
              obtain ⟨⟨v2, c2⟩, f2⟩ := H3.out.xS kn hkl 2 (by omega)
              go_wp2
              have h4 := H3.out.setX kn hkl (faOf (some (pl[k].t, pl[k].s, -1)))
              have hb04 : Below w.heap.size w (setCells wy g2 (kn * 3) (faOf (some (pl[k].t, pl[k].s, -1))).cells) := bl_grown HB03.out (grown_setCells g2 _ wy (kn * 3)) (fun q hq => by cases hq; exact hl2)
              clear c0 c1 c2 f0 f1 f2 r0 r1
              go_roundw
              case rel => exact ⟨k + 1, by omega, by go_num, by rw [HP.out]; exact h4, hb04⟩
              case measure => simp [intOf]; omega
            · rw [c3] at hHB
              have HBt := Lib.hid hHB
              rw [stepH_no o _ c3, set_same _ kn (by rw [nxP_len]; exact hkl) _ HNG.out] at HP
              clear hHB c3
              go_wp2
              (refine wp_region_ext (by kernel_rfl) (by kernel_rfl) ?_; have hX := @ext_cell; (repeat (go_big_quiet_step (first | (go_at_call 105; exact ext_call (HH.out _)) | (go_at_call 106; exact ext_same (HBt.out _))))); refine wpQuiet_nil ?_; clear hX; intro wx hw'; obtain ⟨⟨wx, hbx⟩, rfl⟩ := hw'; obtain ⟨hcx, hfx⟩ := bcell hbx)
              go_wp2
              go_roundw
              case rel => exact ⟨k + 1, by omega, by go_num, by rw [HP.out]; exact H2.out.step hbx, bl_trans HB02.out hbx⟩
              case measure => simp [intOf]; omega
          · rw [if_neg c2'] at HP
            clear c2' hHB
            go_wp2
            (refine wp_region_ext (by kernel_rfl) (by kernel_rfl) ?_; have hX := @ext_cell; (repeat (go_big_quiet_step ((go_at_call 105; exact ext_call (HH.out _))))); refine wpQuiet_nil ?_; clear hX; intro wx hw'; obtain ⟨⟨wx, hbx⟩, rfl⟩ := hw'; obtain ⟨hcx, hfx⟩ := bcell hbx)
            go_wp2
            go_roundw
            case rel => exact ⟨k + 1, by omega, by go_num, by rw [HP.out]; exact H2.out.step hbx, bl_trans HB02.out hbx⟩
            case measure => simp [intOf]; omega
        · have hkn : k = pl.length := by omega
          subst hkn
          -- LOOP3
          rw [List.take_length] at h1
          have HRS := Lib.hid (RunS.start l.ps pl)
          have HSD : Hid (∀ p ∈ pl, 0 ≤ p.s ∧ p.s ≤ 3) := Lib.hid (fun p hp => by
            have := HPL.out
            rw [List.all_eq_true] at this
            have h9 := this p hp
            unfold plainPu inB at h9
            simp only [Bool.and_eq_true, decide_eq_true_eq] at h9
            exact h9.1)
          go_wp2
          go_loopw [] (fun wr => ∃ dn fs nx, T3 w.heap.size g0 g1 g2 l.ps.length wr dn fs nx ∧ Hid (RunS l.ps pl dn fs nx) ∧ Below w.heap.size w wr) (fun wr => undone wr g0 l.ps.length)
          case atStart => exact ⟨_, _, _, h1, HRS, hb⟩
          case round =>
            clear h1 HRS hb
            obtain ⟨dn, fs, nx, h1, HRS, hb⟩ := hrel
            obtain ⟨hl0, hl1, hl2, hm0, hm1, hm2⟩ := h1.lt
            have n01 := h1.n01
            have n02 := h1.n02
            have n12 := h1.n12
            have HT := Lib.hid h1
            clear h1
            obtain ⟨W3, hW3⟩ : ∃ W3, W3 = wr := ⟨_, rfl⟩
            subst hW3
            go_wp2
            go_loopw [13, 14] (fun atv ix wq => ∃ j : Nat, ∃ at_ : Int, j ≤ l.ps.length ∧ ix = .int .i64 j ∧ atv = .int .i64 at_ ∧ Hid (AtOk dn nx j at_) ∧ Below W3.heap.size W3 wq) (fun _ ix _ => l.ps.length - (intOf ix).toNat)
            case atStart => exact ⟨0, -1, by omega, rfl, rfl, Lib.hid (AtOk.zero dn nx), Below.refl _ _⟩
            case round =>
              obtain ⟨j, at_, hj, rfl, rfl, hat, hbq⟩ := hrel
              have hzq := hbq.size
              have p0 : g0 < wr.heap.size := by omega
              have p1 : g1 < wr.heap.size := by omega
              have p2 : g2 < wr.heap.size := by omega
              by_cases hlt : j < l.ps.length
              · have hT := HT.out.step hbq
                have d0 := hT.dAt j hlt
                obtain ⟨x0, -, -⟩ := hT.xAt j hlt
                have hjl : (j : Int) < l.ps.length := by omega
                cases hd : dn.getD j false with
                | true =>
                  rw [hd] at d0
                  have HN := Lib.hid (hat.out.skipD hd)
                  clear hd hT x0
                  go_wp2
                  (refine wp_region_ext (by kernel_rfl) (by kernel_rfl) ?_; have hX := @ext_cell; (repeat (go_big_quiet_step (fail))); refine wpQuiet_nil ?_; clear hX; intro wx hw'; obtain ⟨⟨wx, hbx⟩, rfl⟩ := hw'; obtain ⟨hcx, hfx⟩ := bcell hbx)
                  go_wp2
                  go_roundw
                  case rel => exact ⟨j + 1, at_, by omega, by go_num, rfl, HN, bl_trans hbq hbx⟩
                  case measure => simp [intOf]; omega

                | false =>
                  rw [hd] at d0
                  by_cases hx : (nx.getD j default).t < 0
                  · have HN := Lib.hid (hat.out.skipX hx)
                    have hd1 : decide (0 ≤ (nx.getD j default).t) = false := decide_eq_false (by omega)
                    generalize (nx.getD j default).t = xt at x0 hx hd1
                    clear hd hT
                    go_wp2
                    (refine wp_region_ext (by kernel_rfl) (by kernel_rfl) ?_; have hX := @ext_cell; (repeat (go_big_quiet_step (fail))); refine wpQuiet_nil ?_; clear hX; intro wx hw'; obtain ⟨⟨wx, hbx⟩, rfl⟩ := hw'; obtain ⟨hcx, hfx⟩ := bcell hbx)
                    go_wp2
                    go_roundw
                    case rel => exact ⟨j + 1, at_, by omega, by go_num, rfl, HN, bl_trans hbq hbx⟩
                    case measure => simp [intOf]; omega

                  · have hd1 : decide (0 ≤ (nx.getD j default).t) = true := decide_eq_true (by omega)
                    rcases hat.out with ⟨e1, e2⟩ | ⟨a, e1, e2, e3, e4, e5⟩
                    · subst e1
                      have HN := Lib.hid (AtOk.first e2 hd (by omega))
                      generalize (nx.getD j default).t = xt at x0 hx hd1
                      clear hd hT hat e2
                      go_wp2
                      (refine wp_region_ext (by kernel_rfl) (by kernel_rfl) ?_; have hX := @ext_cell; (repeat (go_big_quiet_step (fail))); refine wpQuiet_nil ?_; clear hX; intro wx hw'; obtain ⟨⟨wx, hbx⟩, rfl⟩ := hw'; obtain ⟨hcx, hfx⟩ := bcell hbx)
                      go_wp2
                      go_roundw
                      case rel => exact ⟨j + 1, (j : Int), by omega, by go_num, rfl, HN, bl_trans hbq hbx⟩
                      case measure => simp [intOf]; omega

                    · subst e2
                      have hal : (a : Int) < l.ps.length := by omega
                      have hd2 : decide ((a : Int) < 0) = false := decide_eq_false (by omega)
                      obtain ⟨y0, -, -⟩ := hT.xAt a (by omega)
                      by_cases hl : (nx.getD j default).t < (nx.getD a default).t
                      · have HN := Lib.hid (AtOk.less e5 hd (by omega) hl)
                        have hd3 : decide ((nx.getD j default).t < (nx.getD a default).t) = true := decide_eq_true hl
                        clear e5 e3
                        generalize (nx.getD j default).t = xt at x0 hx hd1 hl hd3
                        generalize (nx.getD a default).t = yt at y0 hl hd3 e4
                        clear hd hT hat
                        go_wp2
                        (refine wp_region_ext (by kernel_rfl) (by kernel_rfl) ?_; have hX := @ext_cell; (repeat (go_big_quiet_step (fail))); refine wpQuiet_nil ?_; clear hX; intro wx hw'; obtain ⟨⟨wx, hbx⟩, rfl⟩ := hw'; obtain ⟨hcx, hfx⟩ := bcell hbx)
                        go_wp2
                        go_roundw
                        case rel => exact ⟨j + 1, (j : Int), by omega, by go_num, rfl, HN, bl_trans hbq hbx⟩
                        case measure => simp [intOf]; omega

                      · have HN := Lib.hid (AtOk.keep e1 e3 e4 e5 hl)
                        have hd3 : decide ((nx.getD j default).t < (nx.getD a default).t) = false := decide_eq_false hl
                        clear e5 e3
                        generalize (nx.getD j default).t = xt at x0 hx hd1 hl hd3
                        generalize (nx.getD a default).t = yt at y0 hl hd3 e4
                        clear hd hT hat
                        go_wp2
                        (refine wp_region_ext (by kernel_rfl) (by kernel_rfl) ?_; have hX := @ext_cell; (repeat (go_big_quiet_step (fail))); refine wpQuiet_nil ?_; clear hX; intro wx hw'; obtain ⟨⟨wx, hbx⟩, rfl⟩ := hw'; obtain ⟨hcx, hfx⟩ := bcell hbx)
                        go_wp2
                        go_roundw
                        case rel => exact ⟨j + 1, (a : Int), by omega, by go_num, rfl, HN, bl_trans hbq hbx⟩
                        case measure => simp [intOf]; omega

              · have hjn : j = l.ps.length := by omega
                subst hjn
                rcases hat.out with ⟨e1, e2⟩ | ⟨a, e1, e2, e3, e4, e5⟩
                · subst e1
                  have hT := HT.out.step hbq
                  have hokf := Lib.hid (HRS.out.ok HG.out (fun i hi hd => e2 i hi hd))
                  have HTq := Lib.hid hT
                  clear e2 hat hT
                  go_wp2
                  go_ret
                  exact ⟨_, fs, rfl, by rw [HTq.out.lf]; exact HTq.out.f, hokf.out, fun i hi => HRS.out.max c5 i hi, bl_trans hb hbq⟩
                · subst e2
                  have hal : (a : Int) < l.ps.length := by omega
                  have hd2 : decide ((a : Int) < 0) = false := decide_eq_false (by omega)
                  have hT := HT.out.step hbq
                  obtain ⟨r1, r2, r3, r4⟩ := HRS.out.pick HG.out HSD.out c5 a e1 e4
                  have SS := Lib.hid (SideS.start HRS.out a)
                  have HDONE := Lib.hid (fun nx' h => SideS.done (nx' := nx') HG.out HRS.out e1 e3 e4 e5 h)
                  have HUD := Lib.hid (nT_set dn a (by rw [HT.out.ld]; exact e1) e3)
                  have HBD := Lib.hid (fun s k o hL m hm => SideS.bd (nx' := nx) (s := s) HG.out HSD.out HRS.out e1 e4 k o hL m hm)
                  have hga := getD_pc l.ps a e1
                  rw [hga] at r1
                  obtain ⟨X, hX⟩ : ∃ X, X = nx.getD a default := ⟨_, rfl⟩
                  rw [← hX] at r1 r2 r3 r4 e4
                  have HX := Lib.hid hX
                  obtain ⟨bp, offp, hsa, hbp2, hatp⟩ := pcs_get hps e1
                  cases hsa
                  obtain ⟨k1, k2, k3, k4, k5, k6⟩ := vBd_piece2 l hv a e1
                  obtain ⟨⟨vd, cd⟩, fd⟩ := hT.dS a e1
                  have HTQ := Lib.hid hT
                  clear e3 e5 hat hT hX
                  go_upto_region 26 with fail
                  have h25 := HTQ.out.setD a true
                  have hb25 : Below w.heap.size w (wr.setCell ⟨g0, a, none⟩ (.bool true)) := bl_set (bl_trans hb hbq) (by simp; omega) _
                  obtain ⟨W25, hW25⟩ : ∃ W, W = wr.setCell ⟨g0, a, none⟩ (.bool true) := ⟨_, rfl⟩
                  rw [← hW25] at h25 hb25 ⊢
                  clear hW25 cd fd HTQ hbq hzq
                  have H25 := Lib.hid h25
                  have HB25 := Lib.hid hb25
                  have xx := h25.xAt a e1
                  rw [← HX.out] at xx
                  obtain ⟨x0, x1, x2⟩ := xx
                  have kk0 := h25.fS a e1 0 (by omega)
                  rw [Nat.add_zero] at kk0
                  obtain ⟨⟨v0, c0⟩, f0⟩ := kk0
                  obtain ⟨⟨v1, c1⟩, f1⟩ := h25.fS a e1 1 (by omega)
                  obtain ⟨⟨v2, c2⟩, f2⟩ := h25.fS a e1 2 (by omega)
                  obtain ⟨-, -, -, p0, p1, p2⟩ := h25.lt
                  clear h25 hb25
                  go_upto_region 27 with fail
                  have h26 := H25.out.setF a e1 X
                  have hb26 : Below w.heap.size w (setCells W25 g1 (a * 3) X.cells) := bl_grown HB25.out (grown_setCells g1 _ W25 (a * 3)) (fun q hq => by cases hq; exact hl1)
                  obtain ⟨W26, hW26⟩ : ∃ W, W = setCells W25 g1 (a * 3) X.cells := ⟨_, rfl⟩
                  have hW26' : W26 = ((W25.setCell ⟨g1, a * 3, none⟩ (.int .i64 X.t)).setCell ⟨g1, a * 3 + 1, none⟩ (.int .i8 X.f)).setCell ⟨g1, a * 3 + 1 + 1, none⟩ (.int .i64 X.b) := hW26
                  rw [← hW26] at h26 hb26
                  rw [← hW26']
                  clear hW26 hW26' c0 c1 c2 f0 f1 f2 x0 x1 x2
                  have H26 := Lib.hid h26
                  have HB26 := Lib.hid hb26
                  have yy := h26.fAt a e1
                  rw [getD_set fs a a X (by rw [HT.out.lf]; exact e1), if_pos rfl] at yy
                  obtain ⟨y0, y1, -⟩ := yy
                  obtain ⟨-, -, -, p0, p1, p2⟩ := h26.lt
                  have z3 : W26.cell? ⟨b0, 2, none⟩ = some (.slice (some ⟨bp, offp, none⟩) l.ps.length scap) := by rw [hb26.cell (p := ⟨_, _, none⟩) hbl]; exact hbd.2.2
                  have z4 : W26.cell? ⟨bp, offp + a * 5 + 4, none⟩ = some (.int .i8 l.ps[a].d) := by rw [hb26.cell (p := ⟨_, _, none⟩) hbp2]; exact hatp.2.2.2.2
                  have hz26 := hb26.size
                  have p3 : b0 < W26.heap.size := by omega
                  have p4 : bp < W26.heap.size := by omega
                  have s1 : IntKind.i64.wrap X.f = X.f := by rw [IntKind.wrap_i64]; omega
                  have HATP := Lib.hid (fun (w' : World) (h' : Below w.heap.size w w') => hatp.step h' hbp2)
                  have HH : Hid (∀ u : Ext W26, Calls Tryz.prog 105 #[.pointer (some ⟨bp, offp + a * 5, none⟩), .int .i64 X.f] u.w fun e w' => e = .returned (.int .i64 (hitsV l.ps[a].k l.ps[a].t X.f)) ∧ Below u.w.heap.size u.w w') := Lib.hid (fun u =>
                    l01Hits_any l.ps[a].x l.ps[a].y l.ps[a].k l.ps[a].t l.ps[a].d X.f u.w bp (offp + a * 5) (HATP.out _ (bl_trans HB26.out u.b)) (by have := u.b.size; omega) k1 k2 k3 k4 r2 r3)
                  have HHV : Hid (max (hitsV (l.ps.getD a default).k (l.ps.getD a default).t (nx.getD a default).f) 0 = hitsV l.ps[a].k l.ps[a].t X.f) := Lib.hid (by rw [← HX.out, hga]; omega)
                  generalize hitsV l.ps[a].k l.ps[a].t X.f = hv' at HH HHV r1
                  have HDV : Hid ((l.ps.getD a default).d = l.ps[a].d) := Lib.hid (by rw [hga])
                  have s5 : IntKind.i64.wrap l.ps[a].d = l.ps[a].d := by rw [IntKind.wrap_i64]; omega
                  have s6 : IntKind.i64.wrap (X.t + l.ps[a].d) = X.t + l.ps[a].d := by rw [IntKind.wrap_i64]; omega
                  have HATE : Hid ((l.ps.getD a default).at_ = l.ps[a].at_) := Lib.hid (by rw [hga])
                  have HNR := Lib.hid (fun (s : Int) (w' : World) (hb' : Below w.heap.size w w') (h5 : 0 ≤ s) (h6 : s ≤ 3) => l01Near_any b0 l a s w' (HBP.out.step hb') (by omega) e1 h5 h6)
                  generalize l.ps[a].d = d at z4 s5 s6 k5 k6 HDV HATP
                  clear h26 hb26 hatp hga
                  (refine wp_region_ext (by kernel_rfl) (by kernel_rfl) ?_; have hX := @ext_cell; (repeat (go_big_quiet_step ((go_at_call 105; exact ext_call (HH.out _))))); refine wpQuiet_nil ?_; clear hX; intro wx hw'; obtain ⟨⟨wx, hbx⟩, rfl⟩ := hw'; obtain ⟨hcx, hfx⟩ := bcell hbx)
                  have z0 : wx.cell? ⟨g1, a * 3, none⟩ = some (.int .i64 X.t) := by rw [hbx.cell (p := ⟨_, _, none⟩) p1]; exact y0
                  have z3' : wx.cell? ⟨b0, 2, none⟩ = some (.slice (some ⟨bp, offp, none⟩) l.ps.length scap) := by rw [hbx.cell (p := ⟨_, _, none⟩) p3]; exact z3
                  have z4' : wx.cell? ⟨bp, offp + a * 5 + 4, none⟩ = some (.int .i8 d) := by rw [hbx.cell (p := ⟨_, _, none⟩) p4]; exact z4
                  have H27 := Lib.hid (H26.out.step hbx)
                  have HB27 := Lib.hid (bl_trans HB26.out hbx)
                  have hz27 := hbx.size
                  have p1' : g1 < wx.heap.size := by omega
                  have p3' : b0 < wx.heap.size := by omega
                  have p4' : bp < wx.heap.size := by omega
                  clear hcx hfx hbx y0 y1 z3 z4 p0 p1 p2 p3 p4 HH
                  obtain ⟨W27, hW27⟩ : ∃ W27, W27 = wx := ⟨_, rfl⟩
                  subst hW27
                  go_wp2
                  (refine wp_region_ext (by kernel_rfl) (by kernel_rfl) ?_; have hX := @ext_cell; (repeat (go_big_quiet_step (fail))); refine wpQuiet_nil ?_; clear hX; intro wx hw'; obtain ⟨⟨wx, hbx⟩, rfl⟩ := hw'; obtain ⟨hcx, hfx⟩ := bcell hbx)
                  have h28 := H27.out.step hbx
                  have hb28 := bl_trans HB27.out hbx
                  clear hcx hfx z0 z3' z4'
                  go_wp2
                  go_loopw [17] (fun ix wy => ∃ s : Nat, ∃ nx' : List Fa, s ≤ 4 ∧ ix = .int .i64 s ∧ T3 w.heap.size g0 g1 g2 l.ps.length wy (dn.set a true) (fs.set a X) nx' ∧ Hid (SideS l.ps pl dn fs nx a s nx') ∧ Below w.heap.size w wy) (fun ix _ => 4 - (intOf ix).toNat)
                  case atStart => exact ⟨0, nx, by omega, rfl, h28, SS, hb28⟩
                  case round =>
                    clear h28 hb28 hbx
                    obtain ⟨s, nx', hs, rfl, h5, hside, hb5⟩ := hrel
                    by_cases hls : s < 4
                    · have hq0 : 0 ≤ hv' / 2 ^ s := Int.ediv_nonneg r1 (Int.le_of_lt (Int.pow_pos (by decide)))
                      have ht : ((hv' / 2 ^ s).tmod 2 == 0) = decide (hv' / 2 ^ s % 2 = 0) := by rw [Int.tmod_eq_emod_of_nonneg hq0]; rfl
                      have hsl : (s : Int) < 4 := by omega
                      rcases dec_cases (hv' / 2 ^ s % 2 = 0) with ⟨c1, c1'⟩ | ⟨c1, c1'⟩
                      · rw [c1] at ht
                        have HN := Lib.hid (hside.out.skipBit (by rw [HHV.out]; omega))
                        clear c1 c1' hq0
                        go_wp2
                        go_roundw
                        case rel => exact ⟨s + 1, nx', by omega, by go_num, h5, HN, hb5⟩
                        case measure => simp [intOf]; omega

                      · rw [c1] at ht
                        have HBIT : Hid (max (hitsV (l.ps.getD a default).k (l.ps.getD a default).t (nx.getD a default).f) 0 / 2 ^ s % 2 = 1) := Lib.hid (by rw [HHV.out]; omega)
                        clear c1 c1' hq0
                        have HNR2 := Lib.hid (HNR.out s _ hb5 (by omega) (by omega))
                        have HF0 : Hid (fnd (nxt (l.ps.getD a default).at_ (s : Int)) l.ps = fnd (nxt l.ps[a].at_ s) l.ps) := Lib.hid (by rw [HATE.out])
                        have HLT := Lib.hid (fnd_lt (nxt l.ps[a].at_ s) l.ps)
                        generalize fnd (nxt l.ps[a].at_ s) l.ps = kk at HNR2 HF0 HLT
                        have HT5 := Lib.hid h5
                        clear h5
                        go_wp2_with fail
                        refine HNR2.out.mono ?_
                        rintro e w6 ⟨rfl, hb6⟩
                        have H6 := Lib.hid (HT5.out.step hb6)
                        have hb06 := bl_trans hb5 hb6
                        have HB06 := Lib.hid hb06
                        have hz6 := hb06.size
                        obtain ⟨-, -, -, p0, p1, p2⟩ := H6.out.lt
                        clear hb6 hb5 hb06
                        by_cases hk0 : kk < 0
                        · have HN := Lib.hid (hside.out.skipNone (by rw [HF0.out]; exact hk0))
                          have hd4 : decide (0 ≤ kk) = false := decide_eq_false (by omega)
                          go_wp2
                          go_roundw
                          case rel => exact ⟨s + 1, nx', by omega, by go_num, H6.out, HN, HB06.out⟩
                          case measure => simp [intOf]; omega

                        · obtain ⟨kn, hkn⟩ : ∃ kn : Nat, kk = (kn : Int) := ⟨kk.toNat, by omega⟩
                          subst hkn
                          have hknl : kn < l.ps.length := by have := HLT.out (by omega); simpa using this
                          have hkni : (kn : Int) < l.ps.length := by omega
                          have d0 := H6.out.dAt kn hknl
                          have hd4 : decide (0 ≤ (kn : Int)) = true := decide_eq_true (by omega)
                          cases hd : (dn.set a true).getD kn false with
                          | true =>
                            rw [hd] at d0
                            have HN := Lib.hid (hside.out.skipDone HF0.out hd)
                            clear hd
                            go_wp2
                            go_roundw
                            case rel => exact ⟨s + 1, nx', by omega, by go_num, H6.out, HN, HB06.out⟩
                            case measure => simp [intOf]; omega

                          | false =>
                            rw [hd] at d0
                            obtain ⟨bq, offq, hbq0, hbq2, hatq⟩ := pcs_get hps hknl
                            cases hbq0
                            obtain ⟨m1, m2, m3, m4, m5, m6⟩ := vBd_piece2 l hv kn hknl
                            have z3 : w6.cell? ⟨b0, 2, none⟩ = some (.slice (some ⟨bp, offp, none⟩) l.ps.length scap) := by rw [HB06.out.cell (p := ⟨_, _, none⟩) hbl]; exact hbd.2.2
                            have p3 : b0 < w6.heap.size := by omega
                            have HH := Lib.hid (l01Hits_any l.ps[kn].x l.ps[kn].y l.ps[kn].k l.ps[kn].t l.ps[kn].d (((s : Int) + 2) % 4) w6 bp (offp + kn * 5) (hatq.step HB06.out hbq2) (by omega) m1 m2 m3 m4 (by omega) (by omega))
                            have HCK : Hid (hitsV (l.ps.getD kn default).k (l.ps.getD kn default).t (((s : Int) + 2) % 4) = hitsV l.ps[kn].k l.ps[kn].t (((s : Int) + 2) % 4)) := Lib.hid (by rw [getD_pc l.ps kn hknl])
                            generalize hitsV l.ps[kn].k l.ps[kn].t (((s : Int) + 2) % 4) = hw at HH HCK
                            clear hatq m1 m2 m3 m4 m5 m6
                            rcases dec_cases (0 ≤ hw) with ⟨c2, c2'⟩ | ⟨c2, c2'⟩
                            · obtain ⟨o, ho, hL⟩ := hside.out.new kn hknl hd
                              have hbo := HBD.out s kn o hL
                              have HTELL := Lib.hid (fun f' hf' => hside.out.tell hknl hd HBIT.out HF0.out (by rw [HCK.out]; exact c2') o ho (fun m hm => (hbo m hm).1) f' hf' hL)
                              rw [HDV.out, ← HX.out] at HTELL
                              have HLN := Lib.hid hside.out.ln
                              have HHO := Lib.hid ho
                              have hHB : ∀ u (hu : Below w6.heap.size w6 u), Calls Tryz.prog 106 #[.int .i64 (X.t + d), .int .i64 (((s : Int) + 2) % 4), .int .i64 a, .pointer (some ⟨g2, kn * 3, none⟩)] u fun e w' => e = .returned (.bool (betterV (X.t + d, ((s : Int) + 2) % 4, (a : Int)) o)) ∧ u = w' := fun u hu =>
                                l02Better_any (X.t + d) (((s : Int) + 2) % 4) a g2 (kn * 3) o u (by have h9 := (H6.out.step hu).xAt kn hknl; rw [ho] at h9; exact h9) hbo
                              clear c2' hd hL ho
                              rcases Bool.eq_false_or_eq_true (betterV (X.t + d, ((s : Int) + 2) % 4, (a : Int)) o) with c3 | c3
                              · rw [c3] at hHB
                                have HBt := Lib.hid hHB
                                have HN := Lib.hid (HTELL.out (faOf (some (X.t + d, ((s : Int) + 2) % 4, (a : Int)))) (by rw [stepH_yes o _ c3]))
                                have s7 := wrap8_side' (((s : Int) + 2) % 4) (by omega) (by omega)
                                clear hHB c3 HTELL
                                go_wp2_with fail
                                refine HH.out.mono ?_
                                rintro e w7 ⟨rfl, hb7⟩
                                have H7 := Lib.hid (H6.out.step hb7)
                                have HB07 := Lib.hid (bl_trans HB06.out hb7)
                                have hz7 := hb7.size
                                have p2' : g2 < w7.heap.size := by omega
                                go_wp2_with fail
                                refine (HBt.out _ hb7).mono ?_
                                rintro e w8 ⟨rfl, rfl⟩
                                have kk0 := H7.out.xS kn hknl 0 (by omega)
                                rw [Nat.add_zero] at kk0
                                obtain ⟨⟨v0, c0⟩, f0⟩ := kk0
                                obtain ⟨⟨v1, c1⟩, f1⟩ := H7.out.xS kn hknl 1 (by omega)
                                obtain ⟨⟨v2, c2⟩, f2⟩ := H7.out.xS kn hknl 2 (by omega)
                                go_wp2
                                have h8 := H7.out.setX kn hknl (faOf (some (X.t + d, ((s : Int) + 2) % 4, (a : Int))))
                                have hb08 : Below w.heap.size w (setCells w7 g2 (kn * 3) (faOf (some (X.t + d, ((s : Int) + 2) % 4, (a : Int)))).cells) := bl_grown HB07.out (grown_setCells g2 _ w7 (kn * 3)) (fun q hq => by cases hq; exact hl2)
                                clear c0 c1 c2 f0 f1 f2
                                go_roundw
                                case rel => exact ⟨s + 1, _, by omega, by go_num, h8, HN, hb08⟩
                                case measure => simp [intOf]; omega

                              · rw [c3] at hHB
                                have HBt := Lib.hid hHB
                                have hN := HTELL.out (faOf o) (by rw [stepH_no o _ c3])
                                rw [set_same _ kn (by rw [HLN.out]; exact hknl) _ HHO.out] at hN
                                have HN := Lib.hid hN
                                clear hHB c3 HTELL hN
                                go_wp2_with fail
                                refine HH.out.mono ?_
                                rintro e w7 ⟨rfl, hb7⟩
                                have H7 := Lib.hid (H6.out.step hb7)
                                have HB07 := Lib.hid (bl_trans HB06.out hb7)
                                have hz7 := hb7.size
                                have p2' : g2 < w7.heap.size := by omega
                                go_wp2_with fail
                                refine (HBt.out _ hb7).mono ?_
                                rintro e w8 ⟨rfl, rfl⟩
                                go_wp2
                                go_roundw
                                case rel => exact ⟨s + 1, nx', by omega, by go_num, H7.out, HN, HB07.out⟩
                                case measure => simp [intOf]; omega

                            · have HN := Lib.hid (hside.out.skipCan HF0.out (by rw [HCK.out]; exact c2'))
                              clear c2' hd
                              go_wp2_with fail
                              refine HH.out.mono ?_
                              rintro e w7 ⟨rfl, hb7⟩
                              go_wp2
                              go_roundw
                              case rel => exact ⟨s + 1, nx', by omega, by go_num, H6.out.step hb7, HN, bl_trans HB06.out hb7⟩
                              case measure => simp [intOf]; omega

                    · have hs4 : s = 4 := by omega
                      subst hs4
                      have HNEW := Lib.hid (HDONE.out nx' hside.out)
                      rw [← HX.out] at HNEW
                      have H5 := Lib.hid h5
                      clear h5
                      go_wp2
                      go_roundw
                      case rel => exact ⟨_, _, _, H5.out, HNEW, hb5⟩
                      case measure => have u1 := H5.out.undone; have u2 := HT.out.undone; have u3 := HUD.out; omega
end Go.Proofs.YtmeefmoblkiebaaGreat
/- Contracts: FirstWrong and CheckFalls (the reference). -/
namespace Go.Proofs.YtmeefmoblkiebaaGreat
open Go.RowKit
set_option linter.unusedVariables false
set_option linter.unusedSimpArgs false
set_option maxHeartbeats 400000
set_option maxRecDepth 100000
/-- A value that reads as a list of rows. -/
def SV {α : Type} (f : α → List Value) (w : World) (v : Value) (xs : List α) : Prop := ∃ a cap, v = .slice a xs.length cap ∧ SlAt w.heap.size w a (flat f xs)
theorem SV.step {α : Type} {f : α → List Value} {w w' : World} {v : Value} {xs : List α} (h : SV f w v xs) (hb : Below w.heap.size w w') : SV f w' v xs := by
  obtain ⟨a, cap, rfl, h⟩ := h
  exact ⟨a, cap, rfl, (h.below hb (Nat.le_refl _)).wide hb.size⟩
end Go.Proofs.YtmeefmoblkiebaaGreat
/- Hits as rows of four numbers. -/
namespace Go.Proofs.YtmeefmoblkiebaaGreat
open Go.RowKit
set_option linter.unusedVariables false
set_option linter.unusedSimpArgs false
set_option maxHeartbeats 400000
set_option maxRecDepth 100000
structure Hi where
  t : Int
  p : Int
  s : Int
  b : Int
  deriving Inhabited, DecidableEq
/-- What a hit of the program holds: a tick, a piece, a side, by whom. -/
def Hi.ok (h : Hi) : Prop := (-9223372036854775808 ≤ h.t ∧ h.t ≤ 9223372036854775807) ∧ (-1 ≤ h.p ∧ h.p ≤ 1000) ∧ (0 ≤ h.s ∧ h.s ≤ 3) ∧ (-1 ≤ h.b ∧ h.b ≤ 1000)
def Hi.cells (p : Hi) : List Value := [.int .i64 p.t, .int .i64 p.p, .int .i64 p.s, .int .i64 p.b]
abbrev Hi.val (p : Hi) : Value := .agg #[.int .i64 p.t, .int .i64 p.p, .int .i64 p.s, .int .i64 p.b]
theorem Hi.len (p : Hi) : (Hi.cells p).length = 4 := rfl
theorem Hi.one (p : Hi) : ∀ u ∈ Hi.cells p, u.oneCell' = true := by
  intro u hu
  simp only [Hi.cells, List.mem_cons, List.not_mem_nil, or_false] at hu
  rcases hu with rfl | rfl | rfl | rfl <;> rfl
def HiAt (w : World) (b off : Nat) (p : Hi) : Prop :=
  w.cell? ⟨b, off, none⟩ = some (.int .i64 p.t) ∧ w.cell? ⟨b, off + 1, none⟩ = some (.int .i64 p.p) ∧ w.cell? ⟨b, off + 2, none⟩ = some (.int .i64 p.s) ∧ w.cell? ⟨b, off + 3, none⟩ = some (.int .i64 p.b)
theorem his_get {B : Nat} {w : World} {a : Option Addr} {ps : List Hi} (h : SlAt B w a (flat Hi.cells ps)) {k : Nat} (hk : k < ps.length) :
    ∃ b off, a = some ⟨b, off, none⟩ ∧ b < B ∧ HiAt w b (off + k * 4) ps[k] := by
  obtain ⟨b, off, h1, h2, h3⟩ := SlAt.get Hi.len (by omega) h hk
  exact ⟨b, off, h1, h2, h3 0 _ rfl, h3 1 _ rfl, h3 2 _ rfl, h3 3 _ rfl⟩
theorem Tryz.infoHit : (Tryz.prog.info? 161).map (fun i => (i.zero, i.size, i.bytes)) = some (some (.agg #[.int .i64 0, .int .i64 0, .int .i64 0, .int .i64 0]), 4, 32) := by kernel_rfl
end Go.Proofs.YtmeefmoblkiebaaGreat
/- Contracts: functions of package slices over pushes, falls, hits. -/
namespace Go.Proofs.YtmeefmoblkiebaaGreat
open Go.RowKit
set_option linter.unusedVariables false
set_option linter.unusedSimpArgs false
set_option maxHeartbeats 400000
set_option maxRecDepth 100000
end Go.Proofs.YtmeefmoblkiebaaGreat
/- Contracts: the order of hits, the least hit of a list. -/
namespace Go.Proofs.YtmeefmoblkiebaaGreat
open Go.RowKit
set_option linter.unusedVariables false
set_option linter.unusedSimpArgs false
set_option maxHeartbeats 400000
set_option maxRecDepth 100000
def cmpI (a b : Int) : Int := if a < b then -1 else if b < a then 1 else 0
theorem cmpNaN_any (a : Int) (w : World) : Calls Tryz.prog 193 #[.int .i64 a] w fun e w' => e = .returned (.bool false) ∧ w = w' := by
  go_enter Tryz.func193, Tryz.ntmps193
  go_wp2
  exact bodyPost_ret (v := .bool false) (by simp [results, Tryz.results193, go_sem]) rfl ⟨rfl, rfl⟩
theorem compare_any (a b : Int) (w : World) : Calls Tryz.prog 184 #[.int .i64 a, .int .i64 b] w fun e w' => e = .returned (.int .i64 (cmpI a b)) ∧ w = w' := by
  have HV := Lib.hid (show (a < b → cmpI a b = -1) ∧ (¬ a < b → b < a → cmpI a b = 1) ∧ (¬ a < b → ¬ b < a → cmpI a b = 0) from ⟨fun h => if_pos h, fun h h2 => by unfold cmpI; rw [if_neg h, if_pos h2], fun h h2 => by unfold cmpI; rw [if_neg h, if_neg h2]⟩)
  generalize cmpI a b = r at HV ⊢
  by_cases h1 : a < b
  · have H := HV.out.1 h1
    subst H
    go_enter Tryz.func184, Tryz.ntmps184
    go_wp2_with (go_at_call 193; refine (cmpNaN_any _ _).mono ?_; rintro e w' ⟨rfl, rfl⟩)
    go_ret
    exact ⟨rfl, rfl⟩
  · by_cases h2 : b < a
    · have H := HV.out.2.1 h1 h2
      subst H
      go_enter Tryz.func184, Tryz.ntmps184
      go_wp2_with (go_at_call 193; refine (cmpNaN_any _ _).mono ?_; rintro e w' ⟨rfl, rfl⟩)
      go_ret
      exact ⟨rfl, rfl⟩
    · have H := HV.out.2.2 h1 h2
      subst H
      go_enter Tryz.func184, Tryz.ntmps184
      go_wp2_with (go_at_call 193; refine (cmpNaN_any _ _).mono ?_; rintro e w' ⟨rfl, rfl⟩)
      go_ret
      exact ⟨rfl, rfl⟩
/-- The first of numbers that is not zero. -/
def orI : List Int → Int
  | [] => 0
  | x :: r => if x ≠ 0 then x else orI r
theorem orI_skip : ∀ (xs ys : List Int), (∀ x ∈ xs, x = 0) → orI (xs ++ ys) = orI ys := by
  intro xs
  induction xs with
  | nil => intro ys _; rfl
  | cons x xs ih =>
    intro ys h
    have h0 : x = 0 := h x List.mem_cons_self
    subst h0
    show (if (0 : Int) ≠ 0 then 0 else orI (xs ++ ys)) = _
    rw [if_neg (by simp)]
    exact ih ys (fun y hy => h y (List.mem_cons_of_mem _ hy))
def inC (n : Int) : List Value := [.int .i64 n]
theorem inC_len (n : Int) : (inC n).length = 1 := rfl
theorem ints_get {B : Nat} {w : World} {a : Option Addr} {xs : List Int} (h : SlAt B w a (flat inC xs)) {k : Nat} (hk : k < xs.length) : ∃ b off, a = some ⟨b, off, none⟩ ∧ b < B ∧ w.cell? ⟨b, off + k, none⟩ = some (.int .i64 xs[k]) := by
  obtain ⟨b, off, h1, h2, h3⟩ := SlAt.get inC_len (by omega) h hk
  refine ⟨b, off, h1, h2, ?_⟩
  have := h3 0 _ rfl
  rwa [Nat.mul_one, Nat.add_zero] at this
theorem or_any {B : Nat} (a : Option Addr) (cap : Nat) (xs : List Int) (w : World) (h : SlAt B w a (flat inC xs)) (hB : B ≤ w.heap.size) (hn : xs.length ≤ 1000) : Calls Tryz.prog 52 #[.slice a xs.length cap] w fun e w' => e = .returned (.int .i64 (orI xs)) ∧ w = w' := by
  have HV : Hid (∀ k (hk : k < xs.length), (∀ x ∈ xs.take k, x = 0) → orI xs = if xs[k] ≠ 0 then xs[k] else orI (xs.drop (k + 1))) := Lib.hid (by
    intro k hk h0
    have := orI_skip (xs.take k) (xs.drop k) h0
    rw [List.take_append_drop, List.drop_eq_getElem_cons hk] at this
    exact this)
  have HE : Hid ((∀ x ∈ xs, x = 0) → orI xs = 0) := Lib.hid (by
    intro h0
    have := orI_skip xs [] h0
    rw [List.append_nil] at this
    exact this)
  generalize orI xs = r at HV HE ⊢
  go_enter Tryz.func52, Tryz.ntmps52
  go_wp2
  go_loopw [8] (fun i wr => ∃ k : Nat, k ≤ xs.length ∧ i = .int .i64 k ∧ Hid (∀ x ∈ xs.take k, x = 0) ∧ w = wr) (fun i _ => xs.length - (intOf i).toNat)
  case atStart => exact ⟨0, by omega, rfl, Lib.hid (by simp), rfl⟩
  case round =>
    obtain ⟨k, hk, rfl, h0, rfl⟩ := hrel
    by_cases hlt : k < xs.length
    · obtain ⟨b, off, rfl, hb, hat⟩ := ints_get h hlt
      have HK := Lib.hid (HV.out k hlt h0.out)
      have HT : Hid (xs[k] = 0 → ∀ x ∈ xs.take (k + 1), x = 0) := Lib.hid (by
        intro hz x hx
        rw [List.take_succ_eq_append_getElem hlt, List.mem_append] at hx
        rcases hx with hx | hx
        · exact h0.out x hx
        · rw [List.mem_singleton] at hx; rw [hx]; exact hz)
      generalize xs[k] = x at hat HK HT
      by_cases hx : x = 0
      · subst hx
        have HT2 := Lib.hid (HT.out rfl)
        go_wp2
        go_roundw
        case rel => exact ⟨k + 1, by omega, by go_num, HT2, by simp⟩
        case measure => simp [intOf]; omega
      · have HK2 := HK.out
        rw [if_pos hx] at HK2
        subst HK2
        go_wp2
        go_ret
        exact ⟨rfl, rfl⟩
    · have hkn : k = xs.length := by omega
      subst hkn
      have H := HE.out (by have := h0.out; rwa [List.take_length] at this)
      subst H
      go_wp2
      go_ret
      exact ⟨rfl, rfl⟩
/-- How two hits compare. -/
def hoV (a b : Hi) : Int := orI [cmpI a.t b.t, cmpI a.p b.p, cmpI a.s b.s, cmpI a.b b.b]
theorem hoV_lt (a b : Hi) : hoV a b < 0 ↔ a.t < b.t ∨ (a.t = b.t ∧ (a.p < b.p ∨ (a.p = b.p ∧ (a.s < b.s ∨ (a.s = b.s ∧ a.b < b.b))))) := by
  unfold hoV orI orI orI orI orI cmpI
  repeat' split
  all_goals omega
set_option maxHeartbeats 1600000 in
theorem hitOrder_any (a b : Hi) (w : World) : Calls Tryz.prog 152 #[a.val, b.val] w fun e w' => e = .returned (.int .i64 (hoV a b)) ∧
    w' = (((w.alloc (.cells #[.int .i64 a.t, .int .i64 a.p, .int .i64 a.s, .int .i64 a.b] 161)).alloc (.cells #[.int .i64 b.t, .int .i64 b.p, .int .i64 b.s, .int .i64 b.b] 161)).alloc (.cells #[.int .i64 (cmpI a.t b.t), .int .i64 (cmpI a.p b.p), .int .i64 (cmpI a.s b.s), .int .i64 (cmpI a.b b.b)] 3)).drew := by
  have h2 := heap_alloc_new (w.alloc (.cells #[.int .i64 a.t, .int .i64 a.p, .int .i64 a.s, .int .i64 a.b] 161)) (.cells #[.int .i64 b.t, .int .i64 b.p, .int .i64 b.s, .int .i64 b.b] 161)
  have h1 := Below.heap_alloc (w.alloc (.cells #[.int .i64 a.t, .int .i64 a.p, .int .i64 a.s, .int .i64 a.b] 161)) (.cells #[.int .i64 b.t, .int .i64 b.p, .int .i64 b.s, .int .i64 b.b] 161) w.heap.size (by simp)
  rw [heap_alloc_new] at h1
  simp only [World.size_alloc] at h2
  have HC := Lib.hid (fun x y w' => compare_any x y w')
  have HV := Lib.hid (show hoV a b = orI [cmpI a.t b.t, cmpI a.p b.p, cmpI a.s b.s, cmpI a.b b.b] from rfl)
  generalize hoV a b = r at HV ⊢
  have HO := Lib.hid (fun (c1 c2 c3 c4 : Int) (w' : World) (g : Nat) (hh : w'.heap[g]? = some (.cells #[.int .i64 c1, .int .i64 c2, .int .i64 c3, .int .i64 c4] 3 (0, 0))) => (show Calls Tryz.prog 52 #[.slice (some ⟨g, 0, none⟩) 4 4] w' (fun e w'' => e = .returned (.int .i64 (orI [c1, c2, c3, c4])) ∧ w' = w'') from or_any (B := w'.heap.size) (some ⟨g, 0, none⟩) 4 [c1, c2, c3, c4] w' (by
    intro j hj
    have hj4 : j < 4 := hj
    refine ⟨g, 0, rfl, (Array.getElem?_eq_some_iff.1 hh).1, ?_⟩
    rw [cell_of_row _ _ _ _ _ _ hh, Nat.zero_add]
    have : j = 0 ∨ j = 1 ∨ j = 2 ∨ j = 3 := by omega
    rcases this with rfl | rfl | rfl | rfl <;> rfl) (Nat.le_refl _) (by simp)))
  go_enter Tryz.func152, Tryz.ntmps152
  go_upto_region 1 with fail
  obtain ⟨W, hW⟩ : ∃ W, W = (w.alloc (.cells #[.int .i64 a.t, .int .i64 a.p, .int .i64 a.s, .int .i64 a.b] 161)).alloc (.cells #[.int .i64 b.t, .int .i64 b.p, .int .i64 b.s, .int .i64 b.b] 161) := ⟨_, rfl⟩
  rw [← hW] at h1 h2 ⊢
  have x0 : W.cell? ⟨w.heap.size, 0, none⟩ = some (.int .i64 a.t) := by rw [cell_of_row _ _ _ _ _ _ h1]; rfl
  have x1 : W.cell? ⟨w.heap.size, 1, none⟩ = some (.int .i64 a.p) := by rw [cell_of_row _ _ _ _ _ _ h1]; rfl
  have x2 : W.cell? ⟨w.heap.size, 2, none⟩ = some (.int .i64 a.s) := by rw [cell_of_row _ _ _ _ _ _ h1]; rfl
  have x3 : W.cell? ⟨w.heap.size, 3, none⟩ = some (.int .i64 a.b) := by rw [cell_of_row _ _ _ _ _ _ h1]; rfl
  have y0 : W.cell? ⟨w.heap.size + 1, 0, none⟩ = some (.int .i64 b.t) := by rw [cell_of_row _ _ _ _ _ _ h2]; rfl
  have y1 : W.cell? ⟨w.heap.size + 1, 1, none⟩ = some (.int .i64 b.p) := by rw [cell_of_row _ _ _ _ _ _ h2]; rfl
  have y2 : W.cell? ⟨w.heap.size + 1, 2, none⟩ = some (.int .i64 b.s) := by rw [cell_of_row _ _ _ _ _ _ h2]; rfl
  have y3 : W.cell? ⟨w.heap.size + 1, 3, none⟩ = some (.int .i64 b.b) := by rw [cell_of_row _ _ _ _ _ _ h2]; rfl
  have hsz : w.heap.size + 1 < W.heap.size := (Array.getElem?_eq_some_iff.1 h2).1
  have HW := Lib.hid hW
  clear h1 h2 hW
  go_region_held3 (fun w' => w'.cell? ⟨w.heap.size, 0, none⟩ = some (.int .i64 a.t) ∧ w'.cell? ⟨w.heap.size, 1, none⟩ = some (.int .i64 a.p) ∧ w'.cell? ⟨w.heap.size, 2, none⟩ = some (.int .i64 a.s) ∧ w'.cell? ⟨w.heap.size, 3, none⟩ = some (.int .i64 a.b) ∧ w'.cell? ⟨w.heap.size + 1, 0, none⟩ = some (.int .i64 b.t) ∧ w'.cell? ⟨w.heap.size + 1, 1, none⟩ = some (.int .i64 b.p) ∧ w'.cell? ⟨w.heap.size + 1, 2, none⟩ = some (.int .i64 b.s) ∧ w'.cell? ⟨w.heap.size + 1, 3, none⟩ = some (.int .i64 b.b)) (go_keep) (first | (go_at_call 184; refine (HC.out _ _ _).mono ?_; rintro e w' ⟨rfl, rfl⟩) | (go_at_call 52; refine (HO.out _ _ _ _ (World.drew (W.alloc _)) W.heap.size (heap_alloc_new W _)).mono ?_; rintro e w' ⟨rfl, rfl⟩))
  go_wp2
  go_ret
  exact ⟨by rw [HV.out]; rfl, by rw [HW.out]⟩
end Go.Proofs.YtmeefmoblkiebaaGreat
/- Contracts: slices.Insert, slices.BinarySearch over rising ticks. -/
namespace Go.Proofs.YtmeefmoblkiebaaGreat
open Go.RowKit
set_option linter.unusedVariables false
set_option linter.unusedSimpArgs false
set_option maxHeartbeats 400000
set_option maxRecDepth 100000
theorem rowIs_cells {b : Nat} {t : TypeId} {n : Nat} : ∀ (vs : List Value) (o : Nat) (w : World) (f : Nat → Value), w.rowIs b t n f → (w.setCells b o vs).rowIs b t n (fun j => if o ≤ j ∧ j < o + vs.length then vs[j - o]?.getD default else f j) := by
  intro vs
  induction vs with
  | nil =>
    intro o w f h
    exact h.congr (fun i hi => by rw [if_neg (by simp only [List.length_nil]; omega)])
  | cons v r ih =>
    intro o w f h
    have h1 := ih (o + 1) _ _ (h.set o v)
    refine World.rowIs.congr h1 (fun i hi => ?_)
    simp only [List.length_cons]
    by_cases h2 : i = o
    · subst h2
      rw [if_neg (by omega), if_pos rfl, if_pos (by omega)]; simp
    · by_cases h3 : o + 1 ≤ i ∧ i < o + 1 + r.length
      · rw [if_pos h3, if_pos (by omega), show i - o = (i - (o + 1)) + 1 by omega]; rfl
      · rw [if_neg h3, if_neg h2, if_neg (by omega)]
theorem grown_cells (g : Nat) : ∀ (vs : List Value) (o : Nat) (w : World), w.grownBy (w.setCells g o vs) (some g)
  | [], o, w => World.grownBy.refl _ _
  | v :: r, o, w => by
    have h1 : w.grownBy (w.setCell ⟨g, o, none⟩ v) (some g) := ⟨rfl, rfl, rfl, by simp, fun k _ hk => heap_setCell_other w ⟨g, o, none⟩ k v (fun e => hk (by simp [e]))⟩
    exact grown_trans h1 (grown_cells g r (o + 1) _)
theorem grown_far {w W : World} {row : Option Nat} (h : w.grownBy W row) (g : Nat) (hg : w.heap.size ≤ g) (os : List Value) (o : Nat) : w.grownBy (W.setCells g o os) row :=
  have k := grown_cells g os o W
  ⟨k.os.trans h.os, k.tape.trans h.tape, k.output.trans h.output, Nat.le_trans h.size k.size, fun i hi hne => by rw [k.block i (Nat.lt_of_lt_of_le hi h.size) (fun e => by cases e; omega)]; exact h.block i hi hne⟩
theorem grown_drew (w : World) (row : Option Nat) : w.grownBy w.drew row := ⟨rfl, rfl, rfl, Nat.le_refl _, fun _ _ _ => rfl⟩
theorem grown_alloc (w : World) (o : Obj) (row : Option Nat) : w.grownBy (w.alloc o) row := ⟨rfl, rfl, rfl, by simp, fun k hk _ => Below.heap_alloc w o k hk⟩
/-- A row of ints of one's own, cut anywhere. -/
def OffI (B : Nat) (w : World) (v : Value) (xs : List Int) (g : Nat) : Prop :=
  B ≤ g ∧ ∃ off cap N f, v = .slice (some ⟨g, off, none⟩) xs.length cap ∧ w.rowIs g 3 N f ∧ xs.length ≤ cap ∧ cap ≤ 9223372036854775807 ∧ off + cap ≤ N ∧ ∀ j (h : j < xs.length), f (off + j) = .int .i64 xs[j]
section
variable {B : Nat} {w w' : World} {v : Value} {xs : List Int} {g : Nat}
theorem OffI.lt (h : OffI B w v xs g) : g < w.heap.size := by
  obtain ⟨-, off, cap, N, f, -, h1, -⟩ := h
  exact h1.lt
theorem OffI.kept {row : Option Nat} (h : OffI B w v xs g) (hg : w.grownBy w' row) (hne : some g ≠ row) : OffI B w' v xs g := by
  have hl := h.lt
  obtain ⟨h1, off, cap, N, f, h2, h3, h4⟩ := h
  exact ⟨h1, off, cap, N, f, h2, h3.of_block (hg.block g hl hne), h4⟩
theorem OffI.below {B' : Nat} (h : OffI B w v xs g) (hb : Below B' w w') (hB : w.heap.size ≤ B') : OffI B w' v xs g := by
  have hl := h.lt
  obtain ⟨h1, off, cap, N, f, h2, h3, h4⟩ := h
  exact ⟨h1, off, cap, N, f, h2, h3.of_block (hb.block g (by omega)), h4⟩
theorem OffI.head {x : Int} (h : OffI B w v (x :: xs) g) : ∃ off cap, v = .slice (some ⟨g, off, none⟩) (xs.length + 1) (cap + 1) ∧ w.cell? ⟨g, off, none⟩ = some (.int .i64 x) ∧ xs.length ≤ cap ∧ cap < 9223372036854775807 := by
  obtain ⟨h1, off, cap, N, f, h2, h3, h4, h5, h6, h7⟩ := h
  rw [List.length_cons] at h4
  refine ⟨off, cap - 1, ?_, ?_, by omega, by omega⟩
  · rw [h2, List.length_cons, show cap - 1 + 1 = cap by omega]
  · rw [h3.cell (by omega)]
    have := h7 0 (by simp)
    rw [Nat.add_zero] at this
    rw [this]; rfl
/-- The rest. -/
theorem OffI.tail {x : Int} {off cap : Nat} (h : OffI B w (.slice (some ⟨g, off, none⟩) (xs.length + 1) (cap + 1)) (x :: xs) g) : OffI B w (.slice (some ⟨g, off + 1, none⟩) xs.length cap) xs g ∧ (cap = 0 → OffI B w (.slice (some ⟨g, off, none⟩) xs.length cap) xs g) := by
  obtain ⟨h1, off', cap', N, f, h2, h3, h4, h5, h6, h7⟩ := h
  cases h2
  rw [List.length_cons] at h4
  refine ⟨⟨h1, off + 1, cap, N, f, rfl, h3, by omega, by omega, by omega, fun j hj => ?_⟩, fun hc => ⟨h1, off, cap, N, f, rfl, h3, by omega, by omega, by omega, fun j hj => by omega⟩⟩
  have := h7 (j + 1) (by simp; omega)
  rw [show off + 1 + j = off + (j + 1) by omega, this]; rfl
theorem OffI.new (w : World) (hB : B ≤ w.heap.size) : OffI B (w.alloc (.cells #[] 3)) (.slice (some ⟨w.heap.size, 0, none⟩) 0 0) [] w.heap.size :=
  ⟨hB, 0, 0, 0, fun _ => default, rfl, World.rowIs_alloc w #[] 3 _ (fun i hi => by simp at hi), by simp, by omega, by simp, fun j hj => by simp at hj⟩
end
theorem insert_mid (xs : List Int) (i : Nat) (hi : i ≤ xs.length) (x : Int) (j : Nat) (hj : j < (xs.take i ++ x :: xs.drop i).length) : (xs.take i ++ x :: xs.drop i)[j] = if h1 : j < i then xs[j]'(by omega) else if h2 : j = i then x else xs[j - 1]'(by simp at hj; omega) := by
  rw [List.getElem_append]
  simp only [List.length_take, Nat.min_eq_left hi]
  by_cases h1 : j < i
  · rw [dif_pos h1, dif_pos h1, List.getElem_take]
  · rw [dif_neg h1, dif_neg h1]
    by_cases h2 : j = i
    · subst h2
      rw [dif_pos rfl]; simp
    · rw [dif_neg h2]
      obtain ⟨k, hk⟩ : ∃ k, j - i = k + 1 := ⟨j - i - 1, by omega⟩
      simp only [hk, List.getElem_cons_succ, List.getElem_drop]
      congr 1
      omega
set_option maxHeartbeats 1600000 in
theorem insert_any {B : Nat} (v : Value) (xs : List Int) (g : Nat) (x : Int) (i : Nat) (hi : i ≤ xs.length) (w : World) (h : OffI B w v xs g) (hn : xs.length ≤ 100000) (vb : Nat) (hvb : w.heap[vb]? = some (.cells #[.int .i64 x] 3 (0, 0))) (hne : vb ≠ g) (hB : B ≤ w.heap.size) :
    Calls Tryz.prog 150 #[v, .int .i64 i, .slice (some ⟨vb, 0, none⟩) 1 1] w fun e w' => ∃ v' g', e = .returned v' ∧ OffI B w' v' (xs.take i ++ x :: xs.drop i) g' ∧ w.grownBy w' (some g) ∧ (g' = g ∨ w.heap.size ≤ g') := by
  have hlg := h.lt
  obtain ⟨hBg, off, cap, N, f, rfl, hrow, hcap, hc63, hN, hf⟩ := h
  have hcs : ∀ j u, (xs.map (Value.int .i64))[j]? = some u → w.cell? ⟨g, off + j, none⟩ = some u := by
    intro j u hu
    have hj : j < xs.length := by have := (List.getElem?_eq_some_iff.1 hu).1; simpa using this
    rw [hrow.cell (by omega), hf j hj]
    rw [List.getElem?_map, List.getElem?_eq_getElem hj] at hu
    simpa using hu
  have hvs : ∀ j u, [Value.int .i64 x][j]? = some u → w.cell? ⟨vb, 0 + j, none⟩ = some u := by
    intro j u hu
    have hj : j < 1 := by have := (List.getElem?_eq_some_iff.1 hu).1; simpa using this
    have : j = 0 := by omega
    subst this
    rw [cell_of_row _ _ _ _ _ _ hvb]
    simpa using hu
  have h1v : ∀ u ∈ [Value.int .i64 x], u.oneCell' = true := by intro u hu; simp at hu; subst hu; rfl
  have h1c : ∀ u ∈ xs.map (Value.int .i64), u.oneCell' = true := by intro u hu; simp at hu; obtain ⟨y, -, rfl⟩ := hu; rfl
  have hlen : (xs.take i ++ x :: xs.drop i).length = xs.length + 1 := by simp; omega
  have hmid := fun j hj => insert_mid xs i hi x j hj
  by_cases hend : i = xs.length
  · subst hend
    by_cases hroom : xs.length + 1 ≤ cap
    · have hC := Any2.slices_Insert_int_end_room Tryz.laysIns g off xs.length cap vb 0 1 1 [.int .i64 x] w (by omega) hroom hc63 rfl
        (fun k hk => by rw [hrow.cell (by omega)]; rfl) (fun k hk => hrow.frozen _) hvs h1v
      refine Calls.mono hC ?_
      rintro e w' ⟨rfl, rfl⟩
      have hr := rowIs_cells [Value.int .i64 x] (off + xs.length) w f hrow
      refine ⟨_, g, rfl, ⟨hBg, off, cap, N, _, by rw [hlen], hr, by omega, hc63, hN, fun k hk => ?_⟩, grown_cells g _ _ _, .inl rfl⟩
      rw [hmid k hk]
      rw [hlen] at hk
      simp only [List.length_cons, List.length_nil]
      by_cases h1 : k < xs.length
      · rw [if_neg (by omega), dif_pos h1, hf k h1]
      · have : k = xs.length := by omega
        subst this
        rw [if_pos (by omega), dif_neg h1, dif_pos rfl]; simp
    · have hC := Any2.slices_Insert_int_end_grow Tryz.laysIns (some ⟨g, off, none⟩) xs.length cap vb 0 1 1 (xs.map (Value.int .i64)) [.int .i64 x] w (by omega) hcap (by omega) (by omega) (by simp) rfl (fun h9 => by cases h9)
        (fun a ha k u hk => by cases ha; rw [Addr.add_lit]; exact hcs k u hk) hvs h1v
      refine Calls.mono hC ?_
      rintro e w' ⟨rfl, rfl⟩
      have hge := grownCap_ge w (xs.length + 1) cap 3
      have hle := grownCap_le_maxLen w (xs.length + 1) cap 3 (by unfold maxLen; omega)
      change xs.length + 1 ≤ grownCap w (xs.length + 1) cap (Tryz.laysIns_ren.t 3) at hge
      change grownCap w (xs.length + 1) cap (Tryz.laysIns_ren.t 3) ≤ maxLen at hle
      generalize grownCap w (xs.length + 1) cap (Tryz.laysIns_ren.t 3) = gc at hge hle ⊢
      obtain ⟨Z, hZ⟩ : ∃ Z, Z = Builtin.zeroCells (Value.int .i64 0).cells (gc - (xs.length + 1)) := ⟨_, rfl⟩
      have hZs : Z.size = gc - (xs.length + 1) := by rw [hZ, size_zeroCells]; simp [Value.cells]
      rw [← hZ]
      refine ⟨_, w.heap.size, rfl, ⟨hB, 0, gc, ((xs.map (Value.int .i64) ++ [Value.int .i64 x]).toArray ++ Z).size, fun k => ((xs.map (Value.int .i64) ++ [Value.int .i64 x]).toArray ++ Z)[k]?.getD default, by rw [hlen], World.rowIs_alloc w.drew _ 3 _ (fun k hk => by rw [Array.getElem?_eq_getElem hk]; rfl), by omega, by unfold maxLen at hle; omega, by simp [hZs]; omega, fun k hk => ?_⟩, grown_trans (grown_drew w _) (grown_alloc _ _ _), .inr (Nat.le_refl _)⟩
      rw [hmid k hk]
      rw [hlen] at hk
      dsimp only
      rw [Nat.zero_add, Array.getElem?_append_left (by simp; omega), List.getElem?_toArray]
      by_cases h1 : k < xs.length
      · rw [dif_pos h1, List.getElem?_append_left (by simpa using h1), List.getElem?_map, List.getElem?_eq_getElem h1]; rfl
      · have : k = xs.length := by omega
        subst this
        rw [dif_neg h1, dif_pos rfl, List.getElem?_append_right (by simp)]; simp
  · have hil : i < xs.length := by omega
    have hdl : ((xs.map (Value.int .i64)).drop i).length = xs.length - i := by simp
    by_cases hroom : xs.length + 1 ≤ cap
    · have hshb : w.shape? vb = some (3, 1) := by unfold World.shape?; rw [hvb]; rfl
      have hshg : ∃ cs, w.heap[g]? = some (.cells cs 3 (0, 0)) ∧ cs.size = N := by obtain ⟨c, e1, e2, -⟩ := hrow; exact ⟨c, e1, e2⟩
      obtain ⟨cs, e1, e2⟩ := hshg
      have hshg : w.shape? g = some (3, N) := by unfold World.shape?; rw [e1]; simp [e2]
      have hfv : ∀ k, w.frozen? ⟨vb, k, none⟩ = false := by intro k; unfold World.frozen?; rw [hvb]; simp
      have hC := Any2.slices_Insert_int_shift Tryz.laysIns g off xs.length cap i vb 0 1 1 (xs.map (Value.int .i64)) [.int .i64 x] w hil (by omega) hroom hc63 hne (by simp) rfl hcs
        (fun k hk => by rw [hrow.cell (by omega)]; rfl) (fun k hk => hrow.frozen _) hvs h1c h1v 3 3 1 N hshb hshg (by omega) (hfv 0) (hfv 1)
      refine Calls.mono hC ?_
      rintro e w' ⟨rfl, rfl⟩
      have hr := rowIs_cells [Value.int .i64 x] (off + i) _ _ (rowIs_cells ((xs.map (Value.int .i64)).drop i) (off + (i + 1)) w.drew f hrow.drew)
      refine ⟨_, g, rfl, ⟨hBg, off, cap, N, _, by rw [hlen], hr, by omega, hc63, hN, fun k hk => ?_⟩, grown_trans (grown_drew w _) (grown_trans (grown_cells g _ _ _) (grown_cells g _ _ _)), .inl rfl⟩
      rw [hmid k hk]
      rw [hlen] at hk
      rw [hdl]
      simp only [List.length_cons, List.length_nil]
      by_cases h1 : k < i
      · rw [dif_pos h1, if_neg (by omega), if_neg (by omega), hf k (by omega)]
      · by_cases h2 : k = i
        · subst h2
          rw [dif_neg h1, dif_pos rfl, if_pos (by omega)]; simp
        · rw [dif_neg h1, dif_neg h2, if_neg (by omega), if_pos (by omega), List.getElem?_drop, List.getElem?_map, show i + (off + k - (off + (i + 1))) = k - 1 by omega, List.getElem?_eq_getElem (by omega)]; rfl
    · have hC := Any2.slices_Insert_int_grow Tryz.laysIns g off xs.length cap i vb 0 1 1 (xs.map (Value.int .i64)) [.int .i64 x] w hil (by omega) hcap (by omega) (by omega) (by simp) rfl hcs hvs h1c h1v
      refine Calls.mono hC ?_
      rintro e w' ⟨rfl, rfl⟩
      have hge := grownCap_ge w (xs.length + 1) cap 3
      have hle := grownCap_le_maxLen w (xs.length + 1) cap 3 (by unfold maxLen; omega)
      change xs.length + 1 ≤ grownCap w (xs.length + 1) cap (Tryz.laysIns_ren.t 3) at hge
      change grownCap w (xs.length + 1) cap (Tryz.laysIns_ren.t 3) ≤ maxLen at hle
      generalize grownCap w (xs.length + 1) cap (Tryz.laysIns_ren.t 3) = gc at hge hle ⊢
      obtain ⟨Z, hZ⟩ : ∃ Z, Z = Builtin.zeroCells (Value.int .i64 0).cells (xs.length + 1 - i) := ⟨_, rfl⟩
      obtain ⟨Z2, hZ2⟩ : ∃ Z, Z = Builtin.zeroCells (Value.int .i64 0).cells (gc - (xs.length + 1)) := ⟨_, rfl⟩
      have hZs : Z.size = xs.length + 1 - i := by rw [hZ, size_zeroCells]; simp [Value.cells]
      have hZs2 : Z2.size = gc - (xs.length + 1) := by rw [hZ2, size_zeroCells]; simp [Value.cells]
      rw [← hZ, ← hZ2]
      have hr0 := World.rowIs_alloc w (((xs.map (Value.int .i64)).take i).toArray ++ Z ++ Z2) 3 (fun k => (((xs.map (Value.int .i64)).take i).toArray ++ Z ++ Z2)[k]?.getD default) (fun k hk => by rw [Array.getElem?_eq_getElem hk]; rfl)
      have hr := rowIs_cells ((xs.map (Value.int .i64)).drop i) (i + 1) _ _ (World.rowIs.drew (rowIs_cells [Value.int .i64 x] i _ _ hr0.drew))
      refine ⟨_, w.heap.size, rfl, ⟨hB, 0, gc, _, _, by rw [hlen], hr, by omega, by unfold maxLen at hle; omega, by simp [hZs, hZs2]; omega, fun k hk => ?_⟩, ?_, .inr (Nat.le_refl _)⟩
      · rw [hmid k hk]
        rw [hlen] at hk
        rw [hdl]
        simp only [List.length_cons, List.length_nil, Nat.zero_add]
        by_cases h1 : k < i
        · rw [dif_pos h1, if_neg (by omega), if_neg (by omega), Array.append_assoc, Array.getElem?_append_left (by simp; omega), List.getElem?_toArray, List.getElem?_take, if_pos h1, List.getElem?_map, List.getElem?_eq_getElem (by omega)]; rfl
        · by_cases h2 : k = i
          · subst h2
            rw [dif_neg h1, dif_pos rfl, if_neg (by omega), if_pos (by omega)]; simp
          · rw [dif_neg h1, dif_neg h2, if_pos (by omega), List.getElem?_drop, List.getElem?_map, show i + (k - (i + 1)) = k - 1 by omega, List.getElem?_eq_getElem (by omega)]; rfl
      · exact grown_far (grown_trans (grown_far (grown_trans (grown_alloc w _ _) (grown_drew _ _)) w.heap.size (Nat.le_refl _) _ _) (grown_drew _ _)) w.heap.size (Nat.le_refl _) _ _
end Go.Proofs.YtmeefmoblkiebaaGreat
/- Maps whose keys are ints: look-ups and stores. -/
namespace Go.Proofs.YtmeefmoblkiebaaGreat
open Go.RowKit
set_option linter.unusedVariables false
set_option linter.unusedSimpArgs false
set_option linter.unusedVariables false
/-- The type int. -/
def ITy (P : Program) (k : TypeId) : Prop := P.underlying k = some (.int .i64)
/-- Block m of w is a map from cells to values. -/
def IMapAt (w : World) (m : Nat) (kv : List (Int × Value)) : Prop :=
  ∃ es clock, w.heap[m]? = some (.map es clock) ∧ es.toList.map (fun e => (e.key, e.val)) = kv.map (fun p => (Value.int .i64 p.1, p.2))

/-- What a look-up finds, with its place. -/
def imfind (c : Int) : List (Int × Value) → Nat → Option (Nat × Value)
  | [], _ => none
  | p :: r, i => if c = p.1 then some (i, p.2) else imfind c r (i + 1)

theorem now_i (c : Int) : ∀ (es : List MapEntry) (kv : List (Int × Value)) (i : Nat), es.map (fun e => (e.key, e.val)) = kv.map (fun p => (Value.int .i64 p.1, p.2)) → Instr.findNow (.int .i64) (.int .i64 c) es i = some (imfind c kv i) := by
  intro es
  induction es with
  | nil =>
    intro kv i he
    cases kv with
    | nil => rfl
    | cons p r => simp at he
  | cons e es ih =>
    intro kv i he
    cases kv with
    | nil => simp at he
    | cons p r =>
      simp only [List.map_cons, List.cons.injEq, Prod.mk.injEq] at he
      obtain ⟨⟨hk, hv⟩, hr⟩ := he
      unfold Instr.findNow
      rw [hk]
      by_cases hc : c = p.1
      · simp [Instr.sameNow, imfind, hc, hv]
      · simp only [Instr.sameNow, imfind, hc, if_true, if_false, beq_eq_false_iff_ne, ne_eq, not_false_eq_true, (show (c == p.1) = false by simpa using hc)]
        exact ih r (i + 1) hr
theorem key_i {P : Program} {k : TypeId} (h : ITy P k) (c : Int) (w : World) (es : List MapEntry) (kv : List (Int × Value)) (he : es.map (fun e => (e.key, e.val)) = kv.map (fun p => (Value.int .i64 p.1, p.2))) :
    (Instr.findKey k (.int .i64 c) es).run P w = .ok (imfind c kv 0) w := by
  unfold Instr.findKey
  simp only [Sem.run_bind, run_underlying h, Result.andThen_ok, now_i c es kv 0 he]
  rfl
theorem check_i {P : Program} {k : TypeId} (h : ITy P k) (em : Bool) (c : Int) (w : World) : (Instr.checkKey em 10000 k (.int .i64 c)).run P w = .ok () w := by
  have : ∀ n, (Instr.checkKey em (n + 1) k (.int .i64 c)).run P w = .ok () w := by intro n; simp [Instr.checkKey, run_underlying h]
  exact this 9999
/-- 'm[c]', 'v, ok := m[c]'. -/
theorem run_lookup_i {P : Program} {k t et : TypeId} (h : ITy P k) (ht : P.underlying t = some (.map k et)) (z : Value) (hz : ∀ w, (zeroValue et).run P w = .ok z w) {w : World} {m : Nat} {kv : List (Int × Value)} (hm : IMapAt w m kv) (c : Int) (ok : Bool) :
    (Instr.lookup t (.map (some m)) (.int .i64 c) ok).run P w = .ok (if ok then .tuple #[((imfind c kv 0).map (·.2)).getD z, .bool (imfind c kv 0).isSome] else ((imfind c kv 0).map (·.2)).getD z) w := by
  obtain ⟨es, clock, hb, he⟩ := hm
  have hg : (getObj m).run P w = .ok (.map es clock) w := by simp [getObj, Sem.run, hb]
  unfold Instr.lookup
  simp only [Sem.run_bind, run_underlying ht, Result.andThen_ok, hg, Sem.run_pure, check_i h, key_i h c w es.toList kv he]
  cases hf : imfind c kv 0 with
  | none => cases ok <;> simp [hz]
  | some p => cases ok <;> simp

def imget (c : Int) (kv : List (Int × Value)) : Option Value := (imfind c kv 0).map (·.2)
def imput (c : Int) (v : Value) : List (Int × Value) → List (Int × Value)
  | [] => [(c, v)]
  | p :: r => if c = p.1 then (c, v) :: r else p :: imput c v r

theorem imfind_off (c : Int) : ∀ (kv : List (Int × Value)) (i j : Nat), imfind c kv (i + j) = (imfind c kv i).map (fun p => (p.1 + j, p.2)) := by
  intro kv
  induction kv with
  | nil => intro i j; rfl
  | cons p r ih =>
    intro i j
    simp only [imfind]
    by_cases h : c = p.1
    · simp [h]
    · simp only [h, if_false]; rw [show i + j + 1 = (i + 1) + j by omega]; exact ih (i + 1) j

theorem imget_cons (c : Int) (p : Int × Value) (r : List (Int × Value)) : imget c (p :: r) = if c = p.1 then some p.2 else imget c r := by
  unfold imget
  simp only [imfind]
  by_cases h : c = p.1
  · simp [h]
  · simp only [h, if_false]; rw [imfind_off c r 0 1]; cases imfind c r 0 <;> rfl

theorem imget_nil (c : Int) : imget c [] = none := rfl

theorem imget_put (c d : Int) (v : Value) : ∀ kv : List (Int × Value), imget d (imput c v kv) = if d = c then some v else imget d kv := by
  intro kv
  induction kv with
  | nil => simp [imput, imget_cons, imget_nil]
  | cons p r ih =>
    simp only [imput]
    by_cases h : c = p.1
    · rw [if_pos h, imget_cons, imget_cons]
      by_cases h2 : d = c
      · simp [h2]
      · simp only [h2, if_false]; rw [if_neg (by rw [← h]; exact h2)]
    · rw [if_neg h, imget_cons, imget_cons, ih]
      by_cases h2 : d = p.1
      · rw [if_pos h2, if_pos h2, if_neg (by rw [h2]; exact fun e => h e.symm)]
      · rw [if_neg h2, if_neg h2]

theorem imput_some (c : Int) (v : Value) : ∀ (kv : List (Int × Value)) (i : Nat) (u : Value), imfind c kv 0 = some (i, u) → imput c v kv = kv.modify i (fun p => (p.1, v)) ∧ ∃ p, kv[i]? = some p ∧ p.1 = c := by
  intro kv
  induction kv with
  | nil => intro i u h; simp [imfind] at h
  | cons p r ih =>
    intro i u h
    simp only [imfind] at h
    by_cases hc : c = p.1
    · simp only [hc, if_true, Option.some.injEq, Prod.mk.injEq] at h
      obtain ⟨rfl, rfl⟩ := h
      exact ⟨by simp [imput, hc], p, rfl, hc.symm⟩
    · rw [if_neg hc, imfind_off c r 0 1] at h
      cases hm : imfind c r 0 with
      | none => simp [hm] at h
      | some q =>
        simp only [hm, Option.map_some, Option.some.injEq, Prod.mk.injEq] at h
        obtain ⟨rfl, rfl⟩ := h
        obtain ⟨h1, h2⟩ := ih q.1 q.2 hm
        exact ⟨by simp [imput, hc, h1], by simpa using h2⟩

theorem imput_none (c : Int) (v : Value) : ∀ (kv : List (Int × Value)), imfind c kv 0 = none → imput c v kv = kv ++ [(c, v)] := by
  intro kv
  induction kv with
  | nil => intro _; rfl
  | cons p r ih =>
    intro h
    simp only [imfind] at h
    by_cases hc : c = p.1
    · simp [hc] at h
    · rw [if_neg hc, imfind_off c r 0 1] at h
      simp only [imput, hc, if_false, List.cons_append]
      rw [ih (by cases hm : imfind c r 0 <;> simp_all)]

theorem same_i (c : Int) : Instr.sameBits 10000 (.int .i64 c) (.int .i64 c) = true := by
  have : ∀ n, Instr.sameBits (n + 1) (.int .i64 c) (.int .i64 c) = true := by intro n; simp [Instr.sameBits]
  exact this 9999

/-- 'm[c] = v'. -/
theorem run_update_i {P : Program} {k t et : TypeId} (h : ITy P k) (ht : P.underlying t = some (.map k et)) {w : World} {m : Nat} {kv : List (Int × Value)} (hm : IMapAt w m kv) (c : Int) (v : Value) :
    ∃ w', (Instr.mapUpdate t (.map (some m)) (.int .i64 c) v).run P w = .ok () w' ∧ IMapAt w' m (imput c v kv) ∧ w.grownBy w' (some m) ∧ w'.heap.size = w.heap.size := by
  obtain ⟨es, clock, hb, he⟩ := hm
  have hlt : m < w.heap.size := (Array.getElem?_eq_some_iff.1 hb).1
  have hg : (getObj m).run P w = .ok (.map es clock) w := by simp [getObj, Sem.run, hb]
  have hs : ∀ o, (setObj m o).run P w = .ok () { w with heap := w.heap.setIfInBounds m o } := by intro o; simp [setObj, Sem.run, hb]
  have hgr : ∀ o, w.grownBy { w with heap := w.heap.setIfInBounds m o } (some m) := fun o =>
    ⟨rfl, rfl, rfl, by simp, fun j _ hj => by
      have : m ≠ j := fun e => hj (by rw [e])
      simp [this]⟩
  unfold Instr.mapUpdate
  simp only [Sem.run_bind, run_underlying ht, Result.andThen_ok, hg, check_i h, key_i h c w es.toList kv he]
  cases hf : imfind c kv 0 with
  | none =>
    refine ⟨{ w with heap := w.heap.setIfInBounds m (.map (es.push ⟨(.int .i64 c), v, clock⟩) (clock + 1)) }, by simp [hs], ?_, hgr _, by simp⟩
    refine ⟨es.push ⟨(.int .i64 c), v, clock⟩, clock + 1, by simp [hlt], ?_⟩
    rw [imput_none c v kv hf]
    simp [he]
  | some q =>
    obtain ⟨i, u⟩ := q
    obtain ⟨h1, p, h2, h3⟩ := imput_some c v kv i u hf
    have hl : es.toList.length = kv.length := by have := congrArg List.length he; simpa using this
    have hi : i < kv.length := (List.getElem?_eq_some_iff.1 h2).1
    have hie : i < es.size := by rw [← hl] at hi; simpa using hi
    have hkey : es[i]? = some es[i] := Array.getElem?_eq_getElem hie
    have hk2 : es[i].key = (.int .i64 c) := by
      have := congrArg (fun l => l[i]?) he
      simp only [List.getElem?_map, h2] at this
      rw [show es.toList[i]? = some es[i] by simp] at this
      simp only [Option.map_some, Option.some.injEq, Prod.mk.injEq] at this
      rw [this.1, h3]
    refine ⟨{ w with heap := w.heap.setIfInBounds m (.map (es.modify i fun e => { e with key := (.int .i64 c), val := v }) clock) }, ?_, ?_, hgr _, by simp⟩
    · simp [hkey, hk2, Instr.keyThatStays, same_i, hs]
    · refine ⟨es.modify i fun e => { e with key := (.int .i64 c), val := v }, clock, by simp [hlt], ?_⟩
      rw [h1]
      apply List.ext_getElem?
      intro j
      have hej := congrArg (fun l => l[j]?) he
      simp only [List.getElem?_map] at hej
      simp only [Array.toList_modify, List.getElem?_map, List.getElem?_modify]
      by_cases hij : i = j
      · subst hij
        rw [h2] at hej ⊢
        rw [show es.toList[i]? = some es[i] by simp] at hej ⊢
        simp [h3]
      · simp only [hij, if_false]
        simpa using hej

theorem imap_new (w : World) : IMapAt (w.alloc (.map #[] 0)) w.heap.size [] := ⟨#[], 0, heap_alloc_new w _, by simp⟩
theorem imap_alloc {w : World} {m : Nat} {kv : List (Int × Value)} (hm : IMapAt w m kv) (o : Obj) : IMapAt (w.alloc o) m kv := by
  obtain ⟨es, clock, h1, h2⟩ := hm
  exact ⟨es, clock, by rw [Below.heap_alloc w o m (Array.getElem?_eq_some_iff.1 h1).1]; exact h1, h2⟩
theorem imap_lt {w : World} {m : Nat} {kv : List (Int × Value)} (hm : IMapAt w m kv) : m < w.heap.size := by
  obtain ⟨es, clock, h1, h2⟩ := hm
  exact (Array.getElem?_eq_some_iff.1 h1).1

end Go.Proofs.YtmeefmoblkiebaaGreat
/- The run of a board, tick by tick (the program): plain laws. -/
namespace Go.Proofs.YtmeefmoblkiebaaGreat
open Go.RowKit
set_option linter.unusedVariables false
set_option linter.unusedSimpArgs false
set_option maxHeartbeats 400000
set_option maxRecDepth 100000
def mkR (i : Nat) (x : Ht) : Hi := ⟨x.1, i, x.2.1, x.2.2⟩
def htF (f : Fa) : Ht := (f.t, f.f, f.b)
def nF (out : List Fa) : Int := (out.filter (fun f => decide (f.t ≠ -1))).length
theorem nF_nonneg (out : List Fa) : 0 ≤ nF out := by unfold nF; omega
theorem nF_le (out : List Fa) : nF out ≤ out.length := by
  unfold nF; have := List.length_filter_le (fun f : Fa => decide (f.t ≠ -1)) out; omega
theorem nF_set : ∀ (out : List Fa) (a : Nat) (f : Fa), a < out.length → (out.getD a default).t = -1 → f.t ≠ -1 → nF (out.set a f) = nF out + 1 := by
  intro out
  induction out with
  | nil => intro a f h; simp at h
  | cons x out ih =>
    intro a f h h0 hf
    cases a with
    | zero =>
      have h1 : x.t = -1 := h0
      simp [nF, h1, hf]
    | succ a =>
      have h1 := ih a f (by simpa using h) (by simpa using h0) hf
      unfold nF at h1 ⊢
      rw [List.set_cons_succ]
      by_cases hx : x.t = -1
      · rw [List.filter_cons_of_neg (by simp [hx]), List.filter_cons_of_neg (by simp [hx])]; exact h1
      · rw [List.filter_cons_of_pos (by simp [hx]), List.filter_cons_of_pos (by simp [hx]), List.length_cons, List.length_cons]; omega
/-- A hit that is to be looked at: what it says is so of what has fallen. -/
def SrcOk (ps : List Pc) (pl : List Pu) (out : List Fa) (t : Int) (h : Hi) : Prop :=
  h.t = t ∧ ∃ i : Nat, i < ps.length ∧ h.p = (i : Int) ∧ (0 ≤ h.s ∧ h.s ≤ 3) ∧ (-1 ≤ h.b ∧ h.b < ps.length) ∧ (canH ps i (h.t, h.s, h.b) = true → (h.t, h.s, h.b) ∈ dueC ps pl out i)
structure RI (ps : List Pc) (pl : List Pu) (T : Int) (out : List Fa) (pend : Int → List Hi) (ticks : List Int) (now : List Hi) (ex : Nat → Ht → Prop) : Prop where
  lo : out.length = ps.length
  fal : ∀ i, i < ps.length → out.getD i default = faOf none ∨ (0 ≤ (out.getD i default).t ∧ htF (out.getD i default) ∈ dueC ps pl out i)
  cov : ∀ i, i < ps.length → ∀ m, m ∈ dueC ps pl out i → (m.1 ∈ ticks ∧ mkR i m ∈ pend m.1) ∨ mkR i m ∈ now ∨ ((out.getD i default).t ≠ -1 ∧ ltH m (htF (out.getD i default)) = false) ∨ ex i m
  src : ∀ t, t ∈ ticks → ∀ h, h ∈ pend t → SrcOk ps pl out t h
  srcn : ∀ h, h ∈ now → SrcOk ps pl out T h
  srt : ticks.Pairwise (fun a b => a < b)
  gt : ∀ t, t ∈ ticks → T < t
  le : ∀ i, i < ps.length → (out.getD i default).t ≤ T
  ord : ∀ h, h ∈ now → ∀ i : Nat, h.p = (i : Int) → (out.getD i default).t ≠ -1 → ltH (h.t, h.s, h.b) (htF (out.getD i default)) = false
  nsrt : now.Pairwise (fun a b => 0 ≤ hoV b a)
  top : T ≤ 1000 + 9 * nF out ∧ ∀ t, t ∈ ticks → t ≤ 1000 + 9 * nF out
  pne : ∀ t, t ∈ ticks → pend t ≠ []
  pem : ∀ t, T < t → t ∉ ticks → pend t = []
section
variable {ps : List Pc} {pl : List Pu} {T : Int} {out : List Fa} {pend : Int → List Hi} {ticks : List Int} {now : List Hi} {ex : Nat → Ht → Prop}
theorem RI.exw {ex' : Nat → Ht → Prop} (h : RI ps pl T out pend ticks now ex) (hx : ∀ i m, i < ps.length → m ∈ dueC ps pl out i → ex i m → ex' i m) : RI ps pl T out pend ticks now ex' := by
  refine { h with cov := fun i hi m hm => ?_ }
  rcases h.cov i hi m hm with h1 | h1 | h1 | h1
  · exact .inl h1
  · exact .inr (.inl h1)
  · exact .inr (.inr (.inl h1))
  · exact .inr (.inr (.inr (hx i m hi hm h1)))
/-- The end. -/
theorem RI.ok (h : RI ps pl T out pend [] [] (fun _ _ => False)) : okFa ps pl out := by
  refine okFa_least ps pl out h.lo (fun i hi => ?_) (fun i hi => ?_)
  · rcases h.fal i hi with h1 | ⟨h1, -⟩
    · rw [h1]; show (-1 : Int) ≤ -1; omega
    · omega
  · have hc : ∀ m, m ∈ dueC ps pl out i → (out.getD i default).t ≠ -1 ∧ ltH m (htF (out.getD i default)) = false := by
      intro m hm
      rcases h.cov i hi m hm with ⟨h1, -⟩ | h1 | h1 | h1
      · cases h1
      · cases h1
      · exact h1
      · exact h1.elim
    rcases h.fal i hi with h1 | ⟨h1, h2⟩
    · refine ⟨none, h1, fun m hm => ?_⟩
      have := (hc m hm).1
      rw [h1] at this
      exact this rfl
    · exact ⟨some (htF (out.getD i default)), rfl, h2, fun x hx => (hc x hx).2⟩
/-- The next tick is taken; its hits are sorted. -/
theorem RI.take {t : Int} {rest : List Int} {now' : List Hi} (h : RI ps pl T out pend (t :: rest) [] (fun _ _ => False)) (hp : ∀ x, x ∈ now' ↔ x ∈ pend t) (hs : now'.Pairwise (fun a b => 0 ≤ hoV b a)) : RI ps pl t out pend rest now' (fun _ _ => False) := by
  have hT := h.gt t List.mem_cons_self
  refine ⟨h.lo, h.fal, fun i hi m hm => ?_, fun t' ht' x hx => h.src t' (List.mem_cons_of_mem _ ht') x hx, fun x hx => h.src t List.mem_cons_self x ((hp x).1 hx), (List.pairwise_cons.1 h.srt).2, (List.pairwise_cons.1 h.srt).1, fun i hi => Int.le_of_lt (Int.lt_of_le_of_lt (h.le i hi) hT), fun x hx i hi hne => ?_, hs, ⟨h.top.2 t List.mem_cons_self, fun t' ht' => h.top.2 t' (List.mem_cons_of_mem _ ht')⟩, fun t' ht' => h.pne t' (List.mem_cons_of_mem _ ht'), fun t' h1 h2 => h.pem t' (by omega) (fun h3 => ?_)⟩
  · rcases h.cov i hi m hm with ⟨h1, h2⟩ | h1 | h1 | h1
    · rcases List.mem_cons.1 h1 with h3 | h3
      · exact .inr (.inl ((hp _).2 (by rw [← h3]; exact h2)))
      · exact .inl ⟨h3, h2⟩
    · cases h1
    · exact .inr (.inr (.inl h1))
    · exact h1.elim
  · obtain ⟨e1, i', hi', e2, -⟩ := h.src t List.mem_cons_self x ((hp x).1 hx)
    have : i' = i := by omega
    subst this
    have h4 := h.le i' hi'
    rw [Bool.eq_false_iff, ne_eq, ltH_iff]
    unfold htF
    simp only
    omega
  · rcases List.mem_cons.1 h3 with h4 | h4
    · omega
    · exact h2 h4
/-- A hit of a piece that has fallen. -/
theorem RI.skipF {x : Hi} (h : RI ps pl T out pend ticks (x :: now) (fun _ _ => False)) (i : Nat) (hi : x.p = (i : Int)) (hne : (out.getD i default).t ≠ -1) : RI ps pl T out pend ticks now (fun _ _ => False) := by
  refine { h with cov := fun j hj m hm => ?_, srcn := fun y hy => h.srcn y (List.mem_cons_of_mem _ hy), ord := fun y hy => h.ord y (List.mem_cons_of_mem _ hy), nsrt := (List.pairwise_cons.1 h.nsrt).2 }
  rcases h.cov j hj m hm with h1 | h1 | h1 | h1
  · exact .inl h1
  · rcases List.mem_cons.1 h1 with h2 | h2
    · have h3 := h.ord x List.mem_cons_self i hi hne
      have e1 : x.p = (j : Int) := by rw [← h2]; rfl
      have e2 : (x.t, x.s, x.b) = m := by rw [← h2]; rfl
      have : j = i := by omega
      subst this
      rw [e2] at h3
      exact .inr (.inr (.inl ⟨hne, h3⟩))
    · exact .inr (.inl h2)
  · exact .inr (.inr (.inl h1))
  · exact h1.elim
/-- A hit from a side from which the piece does not fall. -/
theorem RI.skipC {x : Hi} (h : RI ps pl T out pend ticks (x :: now) (fun _ _ => False)) (i : Nat) (hi : x.p = (i : Int)) (hc : ¬ canH ps i (x.t, x.s, x.b) = true) : RI ps pl T out pend ticks now (fun _ _ => False) := by
  refine { h with cov := fun j hj m hm => ?_, srcn := fun y hy => h.srcn y (List.mem_cons_of_mem _ hy), ord := fun y hy => h.ord y (List.mem_cons_of_mem _ hy), nsrt := (List.pairwise_cons.1 h.nsrt).2 }
  rcases h.cov j hj m hm with h1 | h1 | h1 | h1
  · exact .inl h1
  · rcases List.mem_cons.1 h1 with h2 | h2
    · exfalso
      have e1 : x.p = (j : Int) := by rw [← h2]; rfl
      have e2 : (x.t, x.s, x.b) = m := by rw [← h2]; rfl
      have : j = i := by omega
      subst this
      rw [e2] at hc
      exact hc ((cand_mem _ _ _ _ _).1 hm).1
    · exact .inr (.inl h2)
  · exact .inr (.inr (.inl h1))
  · exact h1.elim
/-- A piece falls. -/
theorem RI.fall {x : Hi} (G : Good ps pl) (h : RI ps pl T out pend ticks (x :: now) (fun _ _ => False)) (a : Nat) (hxp : x.p = (a : Int)) (ha : a < ps.length) (h0 : (out.getD a default).t = -1) (hT : 0 ≤ T) (hc : canH ps a (x.t, x.s, x.b) = true) :
    RI ps pl T (out.set a ⟨x.t, x.s, x.b⟩) pend ticks now (fun i m => ∃ s, 0 ≤ s ∧ s < 4 ∧ newC ps a ⟨x.t, x.s, x.b⟩ s i m) := by
  have hx := h.srcn x List.mem_cons_self
  have hxt : x.t = T := hx.1
  have hal : a < out.length := by rw [h.lo]; exact ha
  have hf : (⟨x.t, x.s, x.b⟩ : Fa).t ≠ -1 := by show x.t ≠ -1; omega
  have hfall := fun i (hi : i < ps.length) (m : Ht) => dueC_fall ps pl out a ⟨x.t, x.s, x.b⟩ G.nd G.ce h.lo ha h0 hf i hi m
  have hmono : ∀ i, i < ps.length → ∀ m, m ∈ dueC ps pl out i → m ∈ dueC ps pl (out.set a ⟨x.t, x.s, x.b⟩) i := fun i hi m hm => (hfall i hi m).2 (.inl hm)
  have hsrc : ∀ t y, SrcOk ps pl out t y → SrcOk ps pl (out.set a ⟨x.t, x.s, x.b⟩) t y := by
    rintro t y ⟨e1, i, e2, e3, e4, e5, e6⟩
    exact ⟨e1, i, e2, e3, e4, e5, fun hc => hmono i e2 _ (e6 hc)⟩
  have hxm : (x.t, x.s, x.b) ∈ dueC ps pl out a := by
    obtain ⟨-, i, e2, e3, -, -, e6⟩ := hx
    have : i = a := by omega
    subst this
    exact e6 hc
  have hnf := nF_set out a ⟨x.t, x.s, x.b⟩ hal h0 hf
  refine ⟨by rw [List.length_set]; exact h.lo, fun i hi => ?_, fun i hi m hm => ?_, fun t ht y hy => hsrc t y (h.src t ht y hy), fun y hy => hsrc T y (h.srcn y (List.mem_cons_of_mem _ hy)), h.srt, h.gt, fun i hi => ?_, fun y hy i hyi hne => ?_, (List.pairwise_cons.1 h.nsrt).2, ⟨by rw [hnf]; have := h.top.1; omega, fun t ht => by rw [hnf]; have := h.top.2 t ht; omega⟩, h.pne, h.pem⟩
  · rw [getD_set out a i _ hal]
    by_cases hia : i = a
    · rw [if_pos hia]
      subst hia
      exact .inr ⟨by show 0 ≤ x.t; omega, hmono i hi _ hxm⟩
    · rw [if_neg hia]
      rcases h.fal i hi with h1 | ⟨h1, h2⟩
      · exact .inl h1
      · exact .inr ⟨h1, hmono i hi _ h2⟩
  · rw [getD_set out a i _ hal]
    rcases (hfall i hi m).1 hm with hm' | ⟨s, hs, hn⟩
    · rcases h.cov i hi m hm' with h1 | h1 | ⟨h1, h2⟩ | h1
      · exact .inl h1
      · rcases List.mem_cons.1 h1 with h2 | h2
        · have e1 : x.p = (i : Int) := by rw [← h2]; rfl
          have e2 : (x.t, x.s, x.b) = m := by rw [← h2]; rfl
          have : i = a := by omega
          subst this
          rw [if_pos rfl]
          refine .inr (.inr (.inl ⟨hf, ?_⟩))
          rw [← e2]
          exact ltH_irrefl _
        · exact .inr (.inl h2)
      · have hia : i ≠ a := by intro e; subst e; exact h1 h0
        rw [if_neg hia]
        exact .inr (.inr (.inl ⟨h1, h2⟩))
      · exact h1.elim
    · exact .inr (.inr (.inr ⟨s, by omega, hs, hn⟩))
  · rw [getD_set out a i _ hal]
    by_cases hia : i = a
    · rw [if_pos hia]; show x.t ≤ T; omega
    · rw [if_neg hia]; exact h.le i hi
  · rw [getD_set out a i _ hal] at hne ⊢
    by_cases hia : i = a
    · subst hia
      rw [if_pos rfl]
      have h1 := (List.pairwise_cons.1 h.nsrt).1 y hy
      have h2 := (h.srcn y (List.mem_cons_of_mem _ hy)).1
      have h3 : ¬ hoV y x < 0 := by omega
      rw [hoV_lt] at h3
      rw [Bool.eq_false_iff, ne_eq, ltH_iff]
      unfold htF
      simp only
      omega
    · rw [if_neg hia] at hne ⊢
      exact h.ord y (List.mem_cons_of_mem _ hy) i hyi hne
/-- The hit h is added. -/
def addP (pend : Int → List Hi) (h : Hi) : Int → List Hi := fun t => if t = h.t then pend t ++ [h] else pend t
def addT (ticks : List Int) (t : Int) : List Int := if t ∈ ticks then ticks else ticks.filter (fun x => decide (x < t)) ++ t :: ticks.filter (fun x => decide (t < x))
theorem mem_addT (ticks : List Int) (t x : Int) : x ∈ addT ticks t ↔ x ∈ ticks ∨ x = t := by
  unfold addT
  by_cases h : t ∈ ticks
  · rw [if_pos h]
    constructor
    · exact .inl
    · rintro (h1 | rfl)
      · exact h1
      · exact h
  · rw [if_neg h, List.mem_append, List.mem_cons, List.mem_filter, List.mem_filter]
    simp only [decide_eq_true_eq]
    constructor
    · rintro (⟨h1, -⟩ | rfl | ⟨h1, -⟩)
      · exact .inl h1
      · exact .inr rfl
      · exact .inl h1
    · rintro (h1 | rfl)
      · by_cases h2 : x < t
        · exact .inl ⟨h1, h2⟩
        · by_cases h3 : x = t
          · exact .inr (.inl h3)
          · exact .inr (.inr ⟨h1, by omega⟩)
      · exact .inr (.inl rfl)
theorem addT_srt (ticks : List Int) (t : Int) (h : ticks.Pairwise (fun a b => a < b)) : (addT ticks t).Pairwise (fun a b => a < b) := by
  unfold addT
  split
  · exact h
  · rw [List.pairwise_append, List.pairwise_cons]
    refine ⟨h.filter _, ⟨fun x hx => ?_, h.filter _⟩, fun x hx y hy => ?_⟩
    · simpa using (List.mem_filter.1 hx).2
    · have h1 : x < t := by simpa using (List.mem_filter.1 hx).2
      rcases List.mem_cons.1 hy with rfl | hy
      · exact h1
      · have h2 : t < y := by simpa using (List.mem_filter.1 hy).2
        omega
theorem RI.add {ex' : Nat → Ht → Prop} (h : RI ps pl T out pend ticks now ex) (x : Hi) (hT : T < x.t) (htop : x.t ≤ 1000 + 9 * nF out) (hs : SrcOk ps pl out x.t x) (hex : ∀ i m, i < ps.length → m ∈ dueC ps pl out i → ex i m → ex' i m ∨ mkR i m = x) :
    RI ps pl T out (addP pend x) (addT ticks x.t) now ex' := by
  refine ⟨h.lo, h.fal, fun i hi m hm => ?_, fun t ht y hy => ?_, h.srcn, addT_srt _ _ h.srt, fun t ht => ?_, h.le, h.ord, h.nsrt, ⟨h.top.1, fun t ht => ?_⟩, fun t ht => ?_, fun t h1 h2 => ?_⟩
  · rcases h.cov i hi m hm with ⟨h1, h2⟩ | h1 | h1 | h1
    · refine .inl ⟨(mem_addT _ _ _).2 (.inl h1), ?_⟩
      unfold addP
      by_cases e : m.1 = x.t
      · rw [if_pos e]; exact List.mem_append.2 (.inl h2)
      · rw [if_neg e]; exact h2
    · exact .inr (.inl h1)
    · exact .inr (.inr (.inl h1))
    · rcases hex i m hi hm h1 with h2 | h2
      · exact .inr (.inr (.inr h2))
      · have e : m.1 = x.t := by rw [← h2]; rfl
        refine .inl ⟨(mem_addT _ _ _).2 (.inr e), ?_⟩
        unfold addP
        rw [if_pos e, h2]
        exact List.mem_append.2 (.inr List.mem_cons_self)
  · unfold addP at hy
    by_cases e : t = x.t
    · rw [if_pos e] at hy
      rcases List.mem_append.1 hy with hy | hy
      · by_cases h1 : t ∈ ticks
        · exact h.src t h1 y hy
        · rw [h.pem t (by omega) h1] at hy; cases hy
      · rw [List.mem_singleton] at hy
        rw [hy, e]; exact hs
    · rw [if_neg e] at hy
      rcases (mem_addT _ _ _).1 ht with h1 | h1
      · exact h.src t h1 y hy
      · exact absurd h1 e
  · rcases (mem_addT _ _ _).1 ht with h1 | h1
    · exact h.gt t h1
    · omega
  · rcases (mem_addT _ _ _).1 ht with h1 | h1
    · exact h.top.2 t h1
    · omega
  · unfold addP
    by_cases e : t = x.t
    · rw [if_pos e]; simp
    · rw [if_neg e]
      rcases (mem_addT _ _ _).1 ht with h1 | h1
      · exact h.pne t h1
      · exact absurd h1 e
  · have h3 : ¬ (t ∈ ticks ∨ t = x.t) := fun h4 => h2 ((mem_addT _ _ _).2 h4)
    unfold addP
    rw [if_neg (fun e => h3 (.inr e))]
    exact h.pem t h1 (fun e => h3 (.inl e))
/-- Whether a tick is known is told by its hits. -/
theorem RI.known (h : RI ps pl T out pend ticks now ex) (t : Int) (hT : T < t) : pend t = [] ↔ t ∉ ticks :=
  ⟨fun e hm => h.pne t hm e, h.pem t hT⟩
end
end Go.Proofs.YtmeefmoblkiebaaGreat
/- The run of a board, tick by tick (the program): plain laws, 2. -/
namespace Go.Proofs.YtmeefmoblkiebaaGreat
open Go.RowKit
set_option linter.unusedVariables false
set_option linter.unusedSimpArgs false
set_option maxHeartbeats 400000
set_option maxRecDepth 100000
section
variable {ps : List Pc} {pl : List Pu} {T : Int} {out : List Fa} {pend : Int → List Hi} {ticks : List Int} {now : List Hi}
/-- A side over which nobody is hit. -/
theorem RI.sideNo {a s : Nat} {f : Fa} (h : RI ps pl T out pend ticks now (fun i m => ∃ s', s ≤ s' ∧ s' < 4 ∧ newC ps a f s' i m)) (hno : ∀ i m, i < ps.length → ¬ newC ps a f s i m) : RI ps pl T out pend ticks now (fun i m => ∃ s', s + 1 ≤ s' ∧ s' < 4 ∧ newC ps a f s' i m) :=
  h.exw fun i m hi hm ⟨s', h1, h2, h3⟩ => by
    by_cases e : s' = s
    · subst e; exact absurd h3 (hno i m hi)
    · exact ⟨s', by omega, h2, h3⟩
theorem RI.sideBit {a s : Nat} {f : Fa} (h : RI ps pl T out pend ticks now (fun i m => ∃ s', s ≤ s' ∧ s' < 4 ∧ newC ps a f s' i m)) (hb : ¬ max (hitsV (ps.getD a default).k (ps.getD a default).t f.f) 0 / 2 ^ s % 2 = 1) : RI ps pl T out pend ticks now (fun i m => ∃ s', s + 1 ≤ s' ∧ s' < 4 ∧ newC ps a f s' i m) :=
  h.sideNo fun i m hi hn => hb hn.1
theorem RI.sideNone {a s : Nat} {f : Fa} (h : RI ps pl T out pend ticks now (fun i m => ∃ s', s ≤ s' ∧ s' < 4 ∧ newC ps a f s' i m)) (hf : fnd (nxt (ps.getD a default).at_ (s : Int)) ps < 0) : RI ps pl T out pend ticks now (fun i m => ∃ s', s + 1 ≤ s' ∧ s' < 4 ∧ newC ps a f s' i m) :=
  h.sideNo fun i m hi hn => by have := hn.2.1; omega
theorem RI.sideDone {a : Nat} {f : Fa} (h : RI ps pl T out pend ticks now (fun i m => ∃ s', 4 ≤ s' ∧ s' < 4 ∧ newC ps a f s' i m)) : RI ps pl T out pend ticks now (fun _ _ => False) :=
  h.exw fun i m hi hm ⟨s', h1, h2, _⟩ => by omega
/-- A side over which the piece k is hit. -/
theorem RI.sideYes {a s k : Nat} {f : Fa} (G : Good ps pl) (h : RI ps pl T out pend ticks now (fun i m => ∃ s', s ≤ s' ∧ s' < 4 ∧ newC ps a f s' i m)) (hs : s < 4) (ha : a < ps.length) (hk : k < ps.length) (hoa : out.getD a default = f) (hft : f.t = T) (hT : 0 ≤ T)
    (htop : T + 9 ≤ 1000 + 9 * nF out)
    (hbit : max (hitsV (ps.getD a default).k (ps.getD a default).t f.f) 0 / 2 ^ s % 2 = 1) (hf : fnd (nxt (ps.getD a default).at_ (s : Int)) ps = (k : Int)) (x : Hi) (hx : x = ⟨f.t + (ps.getD a default).d, k, ((s : Int) + 2) % 4, a⟩) :
    RI ps pl T out (addP pend x) (addT ticks x.t) now (fun i m => ∃ s', s + 1 ≤ s' ∧ s' < 4 ∧ newC ps a f s' i m) := by
  have hd1 := G.d1 a ha
  have hd9 := G.d9 a ha
  have hxt : x.t = T + (ps.getD a default).d := by rw [hx, ← hft]
  refine h.add x (by omega) (by omega) ?_ ?_
  · subst hx
    refine ⟨rfl, k, hk, rfl, ⟨by simp only; omega, by simp only; omega⟩, ⟨by simp only; omega, by simp only; omega⟩, fun hc => ?_⟩
    rw [cand_mem]
    refine ⟨hc, .inr ⟨(((s : Int) + 2) % 4).toNat, by omega, ?_⟩⟩
    have e1 : (((((s : Int) + 2) % 4).toNat : Nat) : Int) = ((s : Int) + 2) % 4 := by omega
    rw [e1]
    obtain ⟨_, h7⟩ := (fnd_iff ps G.nd _ _).1 hf
    have hga : ps.getD a default = ps[a] := getD_pc ps a ha
    have hgk : ps.getD k default = ps[k] := getD_pc ps k hk
    have e2 : fnd (nxt (ps.getD k default).at_ (((s : Int) + 2) % 4)) ps = (a : Int) := by
      rw [fnd_iff ps G.nd]
      refine ⟨ha, ?_⟩
      rw [hgk, h7, nxt_nxt _ (G.ce a ha) _ (by omega) (by omega), hga]
    unfold candN1
    simp only
    rw [e2, Int.toNat_natCast, hoa, h.lo, show ((((s : Int) + 2) % 4 + 2) % 4).toNat = s by omega]
    rw [if_pos ⟨by omega, by omega, by omega, hbit⟩]
  · rintro i m hi hm ⟨s', h1, h2, h3⟩
    by_cases e : s' = s
    · subst e
      right
      have e1 := h3.2.1
      rw [hf] at e1
      have : k = i := by omega
      subst this
      rw [h3.2.2.2, hx]
      rfl
    · exact .inl ⟨s', by omega, h2, h3⟩
/-- The start: nothing has fallen, nothing is known. -/
theorem candN1_rep (ps : List Pc) (i : Nat) (s : Int) : candN1 ps (List.replicate ps.length (faOf none)) i s = none := by
  cases h : candN1 ps (List.replicate ps.length (faOf none)) i s with
  | none => rfl
  | some m =>
    obtain ⟨k, hk, -, h3, -⟩ := candN1_some ps _ i s m h (by simp)
    rw [List.getD_eq_getElem?_getD, List.getElem?_replicate, if_pos hk] at h3
    exact absurd rfl h3
theorem mem_rep (ps : List Pc) (pl : List Pu) (i : Nat) (m : Ht) : m ∈ dueC ps pl (List.replicate ps.length (faOf none)) i ↔ canH ps i m = true ∧ m ∈ candP ps pl i := by
  rw [cand_mem]
  constructor
  · rintro ⟨h1, h2 | ⟨s, -, h2⟩⟩
    · exact ⟨h1, h2⟩
    · rw [candN1_rep] at h2; cases h2
  · rintro ⟨h1, h2⟩; exact ⟨h1, .inl h2⟩
theorem rep_get (ps : List Pc) (i : Nat) (hi : i < ps.length) : (List.replicate ps.length (faOf none)).getD i default = faOf none := by
  rw [List.getD_eq_getElem?_getD, List.getElem?_replicate, if_pos hi]; rfl
theorem RI.start (ps : List Pc) : RI ps [] (-1) (List.replicate ps.length (faOf none)) (fun _ => []) [] [] (fun _ _ => False) := by
  refine ⟨by simp, fun i hi => .inl (rep_get ps i hi), fun i hi m hm => ?_, fun t ht => (by cases ht), fun h hh => (by cases hh), List.Pairwise.nil, fun t ht => (by cases ht), fun i hi => ?_, fun h hh => (by cases hh), List.Pairwise.nil, ⟨by have := nF_nonneg (List.replicate ps.length (faOf none)); omega, fun t ht => (by cases ht)⟩, fun t ht => (by cases ht), fun t _ _ => rfl⟩
  · rw [mem_rep] at hm
    have := hm.2
    unfold candP at this
    simp at this
  · rw [rep_get ps i hi]; show (-1 : Int) ≤ -1; omega
/-- A push more. -/
theorem RI.push (G : (ps.map Pc.at_).Nodup) (h : RI ps pl (-1) (List.replicate ps.length (faOf none)) pend ticks [] (fun _ _ => False)) (p : Pu) (hp : 0 ≤ p.t ∧ p.t ≤ 1000) (hs : 0 ≤ p.s ∧ p.s ≤ 3) (k : Nat) (hk : k < ps.length) (hf : fnd ⟨p.x, p.y⟩ ps = (k : Int)) (x : Hi) (hx : x = ⟨p.t, k, p.s, -1⟩) :
    RI ps (pl ++ [p]) (-1) (List.replicate ps.length (faOf none)) (addP pend x) (addT ticks x.t) [] (fun _ _ => False) := by
  obtain ⟨_, hk2⟩ := (fnd_iff ps G _ _).1 hf
  have hmono : ∀ i m, m ∈ dueC ps pl (List.replicate ps.length (faOf none)) i → m ∈ dueC ps (pl ++ [p]) (List.replicate ps.length (faOf none)) i := by
    intro i m hm
    rw [mem_rep] at hm ⊢
    refine ⟨hm.1, ?_⟩
    rw [candP_snoc]
    exact List.mem_append.2 (.inl hm.2)
  have h1 : RI ps (pl ++ [p]) (-1) (List.replicate ps.length (faOf none)) pend ticks [] (fun i m => mkR i m = x) := by
    refine { h with fal := fun i hi => .inl (rep_get ps i hi), cov := fun i hi m hm => ?_, src := fun t ht y hy => ?_, srcn := fun y hy => (by cases hy) }
    · rw [mem_rep, candP_snoc, List.mem_append] at hm
      rcases hm.2 with h2 | h2
      · rcases h.cov i hi m ((mem_rep ps pl i m).2 ⟨hm.1, h2⟩) with h3 | h3 | h3 | h3
        · exact .inl h3
        · cases h3
        · exact .inr (.inr (.inl h3))
        · exact h3.elim
      · right; right; right
        split at h2
        · rename_i e
          rw [List.mem_singleton] at h2
          have h4 := (fnd_iff ps G ⟨p.x, p.y⟩ i).2 ⟨hi, by rw [e, getD_pc ps i hi]⟩
          have : k = i := by omega
          subst this
          rw [h2, hx]; rfl
        · cases h2
    · obtain ⟨e1, i, e2, e3, e4, e5, e6⟩ := h.src t ht y hy
      exact ⟨e1, i, e2, e3, e4, e5, fun hc => hmono i _ (e6 hc)⟩
  have h2 : x.t = p.t := by rw [hx]
  refine h1.add x (by omega) (by have := nF_nonneg (List.replicate ps.length (faOf none)); omega) ?_ (fun i m _ _ e => .inr e)
  subst hx
  refine ⟨rfl, k, hk, rfl, hs, ⟨by simp only; omega, by simp only; omega⟩, fun hc => ?_⟩
  rw [mem_rep]
  refine ⟨hc, ?_⟩
  rw [candP_snoc, getD_pc ps k hk, hk2, if_pos rfl]
  exact List.mem_append.2 (.inr List.mem_cons_self)
end
end Go.Proofs.YtmeefmoblkiebaaGreat
/- What is pending, in memory: a map from ticks to rows of hits, and the rising ticks. -/
namespace Go.Proofs.YtmeefmoblkiebaaGreat
open Go.RowKit
set_option linter.unusedVariables false
set_option linter.unusedSimpArgs false
set_option maxHeartbeats 400000
set_option maxRecDepth 100000
/-- All blocks but those of N are as they were. -/
structure Fr (N : Nat → Prop) (w w' : World) : Prop where
  os : w'.os = w.os
  tape : w'.tape = w.tape
  output : w'.output = w.output
  size : w.heap.size ≤ w'.heap.size
  block : ∀ k, k < w.heap.size → ¬ N k → w'.heap[k]? = w.heap[k]?
theorem Fr.refl (N : Nat → Prop) (w : World) : Fr N w w := ⟨rfl, rfl, rfl, Nat.le_refl _, fun _ _ _ => rfl⟩
theorem Fr.trans {N : Nat → Prop} {a b c : World} (h : Fr N a b) (k : Fr N b c) : Fr N a c :=
  ⟨k.os.trans h.os, k.tape.trans h.tape, k.output.trans h.output, Nat.le_trans h.size k.size, fun i hi hn => (k.block i (Nat.lt_of_lt_of_le hi h.size) hn).trans (h.block i hi hn)⟩
theorem Fr.weak {N N' : Nat → Prop} {a b : World} (h : Fr N a b) (hn : ∀ k, k < a.heap.size → N k → N' k) : Fr N' a b :=
  ⟨h.os, h.tape, h.output, h.size, fun k hk hk' => h.block k hk (fun e => hk' (hn k hk e))⟩
/-- A step behind which the names of blocks may have turned: what is new lies above. -/
theorem Fr.trans2 {N N' : Nat → Prop} {a b c : World} (h : Fr N a b) (k : Fr N' b c) (hn : ∀ i, i < a.heap.size → N' i → N i) : Fr N a c :=
  ⟨k.os.trans h.os, k.tape.trans h.tape, k.output.trans h.output, Nat.le_trans h.size k.size, fun i hi hi' => (k.block i (Nat.lt_of_lt_of_le hi h.size) (fun e => hi' (hn i hi e))).trans (h.block i hi hi')⟩
theorem Fr.of_below {N : Nat → Prop} {a b : World} (h : Below a.heap.size a b) : Fr N a b := ⟨h.os, h.tape, h.output, h.size, fun k hk _ => h.block k hk⟩
theorem Fr.of_grown {N : Nat → Prop} {a b : World} {row : Option Nat} (h : a.grownBy b row) (hr : ∀ g, row = some g → g < a.heap.size → N g) : Fr N a b :=
  ⟨h.os, h.tape, h.output, h.size, fun k hk hk' => h.block k hk (fun e => hk' (hr k e.symm hk))⟩
theorem Fr.below {N : Nat → Prop} {B : Nat} {a b : World} (h : Fr N a b) (hB : B ≤ a.heap.size) (hN : ∀ k, N k → B ≤ k) : Below B a b :=
  ⟨h.os, h.tape, h.output, h.size, fun k hk => h.block k (by omega) (fun e => by have := hN k e; omega)⟩
theorem own_fr {N : Nat → Prop} {w w' : World} {base e s n : Nat} {v : Value} {xs : List Value} (h : w.ownsRow base e s v n xs) (hf : Fr N w w') (hn : ∀ k, v.ownBlock = some k → ¬ N k) : w'.ownsRow base e s v n xs := by
  refine ⟨h.1, ?_⟩
  have hlt := h.lt
  rcases h.2 with h1 | ⟨g, cap, cur, rfl, hb', hgg, rest⟩
  · exact .inl h1
  · exact .inr ⟨g, cap, cur, rfl, hb', by rw [hf.block g (hlt g rfl).2 (hn g rfl)]; exact hgg, rest⟩
theorem cell_fr {N : Nat → Prop} {w w' : World} (hf : Fr N w w') {b o : Nat} (hb : b < w.heap.size) (hn : ¬ N b) : w'.cell? ⟨b, o, none⟩ = w.cell? ⟨b, o, none⟩ := World.cell?_of_block (a := ⟨b, o, none⟩) (hf.block b hb hn)
theorem off_fr {N : Nat → Prop} {B : Nat} {w w' : World} {v : Value} {xs : List Int} {g : Nat} (h : OffI B w v xs g) (hf : Fr N w w') (hn : ¬ N g) : OffI B w' v xs g := by
  have hl := h.lt
  obtain ⟨h1, off, cap, M, f, h2, h3, h4⟩ := h
  exact ⟨h1, off, cap, M, f, h2, h3.of_block (hf.block g hl hn), h4⟩
theorem imap_fr {N : Nat → Prop} {w w' : World} {m : Nat} {kv : List (Int × Value)} (h : IMapAt w m kv) (hf : Fr N w w') (hn : ¬ N m) : IMapAt w' m kv := by
  have hl := imap_lt h
  obtain ⟨es, clock, h1, h2⟩ := h
  exact ⟨es, clock, by rw [hf.block m hl hn]; exact h1, h2⟩
/-- The row of the hits of a tick. -/
def RowOf (B : Nat) (w : World) (Sp : Nat → Prop) (L : List Hi) (o : Option Value) : Prop :=
  (L = [] ∧ o = none) ∨ (L ≠ [] ∧ ∃ g cap, o = some (.slice (some ⟨g, 0, none⟩) L.length cap) ∧ Sp g ∧ w.ownsRow B 161 4 (.slice (some ⟨g, 0, none⟩) L.length cap) L.length (flat Hi.cells L))
structure PT (B m b6 b7 : Nat) (T : Int) (w : World) (pend : Int → List Hi) (ticks : List Int) (Sp St : Nat → Prop) : Prop where
  n67 : b6 ≠ b7
  n6m : b6 ≠ m
  n7m : b7 ≠ m
  l6 : b6 < w.heap.size
  lB : B ≤ m ∧ B ≤ b6 ∧ B ≤ b7
  nS : ∀ g, Sp g ∨ St g → g ≠ m ∧ g ≠ b6 ∧ g ≠ b7
  dj : ∀ g, Sp g → ¬ St g
  lS : ∀ g, Sp g ∨ St g → B ≤ g ∧ g < w.heap.size
  c6 : w.cell? ⟨b6, 0, none⟩ = some (.map (some m))
  mp : ∃ kv, IMapAt w m kv ∧ (∀ t, T < t → RowOf B w Sp (pend t) (imget t kv)) ∧
    ∀ t t' g c c', T < t → T < t' → imget t kv = some (.slice (some ⟨g, 0, none⟩) (pend t).length c) → imget t' kv = some (.slice (some ⟨g, 0, none⟩) (pend t').length c') → t = t'
  tk : ∃ tv gt, w.ownsRow B 106 1 (.slice (some ⟨b7, 0, none⟩) 1 1) 1 [tv] ∧ OffI B w tv ticks gt ∧ St gt
section
variable {B m b6 b7 : Nat} {T : Int} {w w' : World} {pend : Int → List Hi} {ticks : List Int} {Sp St : Nat → Prop}
/-- What the pending is made of. -/
def PN (m b7 : Nat) (Sp St : Nat → Prop) (k : Nat) : Prop := k = m ∨ k = b7 ∨ Sp k ∨ St k
theorem RowOf.fr {L : List Hi} {o : Option Value} {N : Nat → Prop} (h : RowOf B w Sp L o) (hf : Fr N w w') (hn : ∀ g, Sp g → ¬ N g) : RowOf B w' Sp L o := by
  rcases h with h | ⟨h1, g, cap, h2, h3, h4⟩
  · exact .inl h
  · exact .inr ⟨h1, g, cap, h2, h3, own_fr h4 hf (fun k hk => by have h9 : some g = some k := hk; cases h9; exact hn g h3)⟩
theorem PT.fr {N : Nat → Prop} (h : PT B m b6 b7 T w pend ticks Sp St) (hf : Fr N w w') (hn : ∀ k, N k → k < w.heap.size → ¬ PN m b7 Sp St k ∧ k ≠ b6) : PT B m b6 b7 T w' pend ticks Sp St := by
  obtain ⟨tv, gt, t1, t2, t3⟩ := h.tk
  obtain ⟨kv, k1, k2, k3⟩ := h.mp
  have hm : ¬ N m := fun e => (hn m e (imap_lt k1)).1 (.inl rfl)
  have hb7 : ¬ N b7 := fun e => (hn b7 e (t1.lt _ rfl).2).1 (.inr (.inl rfl))
  have hSp : ∀ g, Sp g → ¬ N g := fun g hg e => (hn g e (h.lS g (.inl hg)).2).1 (.inr (.inr (.inl hg)))
  have hSt : ∀ g, St g → ¬ N g := fun g hg e => (hn g e (h.lS g (.inr hg)).2).1 (.inr (.inr (.inr hg)))
  have hb6 : ¬ N b6 := fun e => (hn b6 e h.l6).2 rfl
  exact ⟨h.n67, h.n6m, h.n7m, Nat.lt_of_lt_of_le h.l6 hf.size, h.lB, h.nS, h.dj, fun g hg => ⟨(h.lS g hg).1, Nat.lt_of_lt_of_le (h.lS g hg).2 hf.size⟩, by rw [cell_fr hf h.l6 hb6]; exact h.c6,
    ⟨kv, imap_fr k1 hf hm, fun t ht => (k2 t ht).fr hf hSp, k3⟩, ⟨tv, gt, own_fr t1 hf (fun k hk => by have h9 : some b7 = some k := hk; cases h9; exact hb7), off_fr t2 hf (hSt gt t3), t3⟩⟩
theorem PT.step (h : PT B m b6 b7 T w pend ticks Sp St) (hb : Below w.heap.size w w') : PT B m b6 b7 T w' pend ticks Sp St :=
  h.fr (N := fun _ => False) (Fr.of_below hb) (fun k hk => hk.elim)
/-- The rising ticks are others. -/
theorem PT.ticks' {ticks' : List Int} {tv' : Value} {g' : Nat} (h : PT B m b6 b7 T w pend ticks Sp St) (hf : Fr (fun k => k = b7 ∨ St k) w w') (h1 : w'.ownsRow B 106 1 (.slice (some ⟨b7, 0, none⟩) 1 1) 1 [tv']) (h2 : OffI B w' tv' ticks' g') (hg : St g' ∨ w.heap.size ≤ g') :
    PT B m b6 b7 T w' pend ticks' Sp (fun k => k = g') := by
  obtain ⟨tv, gt, t1, t2, t3⟩ := h.tk
  obtain ⟨kv, k1, k2, k3⟩ := h.mp
  have hgn : g' ≠ m ∧ g' ≠ b6 ∧ g' ≠ b7 := by
    rcases hg with hg | hg
    · exact h.nS g' (.inr hg)
    · have e1 := imap_lt k1
      have e2 := h.l6
      have e3 : b7 < w.heap.size := (t1.lt _ rfl).2
      omega
  have hSN : ∀ g, Sp g → ¬ (g = b7 ∨ St g) := fun g hg e => by
    rcases e with e | e
    · exact (h.nS g (.inl hg)).2.2 e
    · exact h.dj g hg e
  refine ⟨h.n67, h.n6m, h.n7m, Nat.lt_of_lt_of_le h.l6 hf.size, h.lB, ?_, ?_, ?_, ?_, ⟨kv, imap_fr k1 hf ?_, fun t ht => (k2 t ht).fr hf hSN, k3⟩, ⟨tv', g', h1, h2, rfl⟩⟩
  · rintro g (hg' | rfl)
    · exact h.nS g (.inl hg')
    · exact hgn
  · rintro g hg' rfl
    rcases hg with hg | hg
    · exact h.dj g hg' hg
    · have := (h.lS g (.inl hg')).2; omega
  · rintro g (hg' | rfl)
    · exact ⟨(h.lS g (.inl hg')).1, Nat.lt_of_lt_of_le (h.lS g (.inl hg')).2 hf.size⟩
    · exact ⟨h2.1, h2.lt⟩
  · rw [cell_fr hf h.l6 (fun e => by rcases e with e | e; exact h.n67 e; exact (h.nS b6 (.inr e)).2.1 rfl)]; exact h.c6
  · intro e
    rcases e with e | e
    · exact h.n7m e.symm
    · exact (h.nS m (.inr e)).1 rfl
theorem PT.push (h : PT B m b6 b7 T w pend ticks Sp St) {kv : List (Int × Value)} (k1 : IMapAt w m kv) (k2 : ∀ t, T < t → RowOf B w Sp (pend t) (imget t kv))
    (k3 : ∀ t t' g c c', T < t → T < t' → imget t kv = some (.slice (some ⟨g, 0, none⟩) (pend t).length c) → imget t' kv = some (.slice (some ⟨g, 0, none⟩) (pend t').length c') → t = t')
    (x : Hi) (hx : T < x.t) {w1 w2 : World} {g' cap' : Nat} (own1 : w1.ownsRow B 161 4 (.slice (some ⟨g', 0, none⟩) ((pend x.t).length + 1) cap') ((pend x.t).length + 1) (flat Hi.cells (pend x.t ++ [x])))
    (hg : (∃ c, imget x.t kv = some (.slice (some ⟨g', 0, none⟩) (pend x.t).length c)) ∨ w.heap.size ≤ g') (hf : Fr (fun k => ∃ c, imget x.t kv = some (.slice (some ⟨k, 0, none⟩) (pend x.t).length c)) w w1)
    (m2 : IMapAt w2 m (imput x.t (.slice (some ⟨g', 0, none⟩) ((pend x.t).length + 1) cap') kv)) (hg2 : w1.grownBy w2 (some m)) :
    PT B m b6 b7 T w2 (addP pend x) ticks (fun k => Sp k ∨ k = g') St := by
  obtain ⟨tv, gt, t1, t2, t3⟩ := h.tk
  have hml := imap_lt k1
  have hb7l : b7 < w.heap.size := (t1.lt _ rfl).2
  have hg1 : g' < w1.heap.size := (own1.lt _ rfl).2
  -- an old row's block is one of Sp
  have hold : ∀ t g c, T < t → imget t kv = some (.slice (some ⟨g, 0, none⟩) (pend t).length c) → Sp g := by
    intro t g c ht he
    rcases k2 t ht with ⟨-, e⟩ | ⟨-, g2, c2, e, hs, -⟩
    · rw [e] at he; cases he
    · rw [e] at he
      simp only [Option.some.injEq, Value.slice.injEq, Addr.mk.injEq, and_true, true_and] at he
      rw [← he.1]; exact hs
  have hgk : Sp g' ∨ w.heap.size ≤ g' := by
    rcases hg with ⟨c, hc⟩ | hg
    · exact .inl (hold _ _ _ hx hc)
    · exact .inr hg
  have hgn : g' ≠ m ∧ g' ≠ b6 ∧ g' ≠ b7 := by
    rcases hgk with hs | hs
    · exact h.nS g' (.inl hs)
    · have := h.l6; omega
  have hgS : ¬ St g' := by
    intro e
    rcases hgk with hs | hs
    · exact h.dj g' hs e
    · have := (h.lS g' (.inr e)).2; omega
  have hfr : Fr (fun k => (∃ c, imget x.t kv = some (.slice (some ⟨k, 0, none⟩) (pend x.t).length c)) ∨ k = m) w w2 :=
    (hf.weak (fun k _ e => .inl e)).trans (Fr.of_grown hg2 (fun g e _ => by cases e; exact .inr rfl))
  have hnot : ∀ k, (k ≠ m ∧ ¬ Sp k) → ¬ ((∃ c, imget x.t kv = some (.slice (some ⟨k, 0, none⟩) (pend x.t).length c)) ∨ k = m) := by
    rintro k ⟨e1, e2⟩ (⟨c, e⟩ | e)
    · exact e2 (hold _ _ _ hx e)
    · exact e1 e
  refine ⟨h.n67, h.n6m, h.n7m, Nat.lt_of_lt_of_le h.l6 hfr.size, h.lB, ?_, ?_, ?_, ?_, ⟨_, m2, fun t ht => ?_, fun t t' g c c' ht ht' e e' => ?_⟩, ⟨tv, gt, own_fr t1 hfr (fun k hk => ?_), off_fr t2 hfr (hnot gt ⟨(h.nS gt (.inr t3)).1, fun e => h.dj gt e t3⟩), t3⟩⟩
  · rintro g ((hs | rfl) | hs)
    · exact h.nS g (.inl hs)
    · exact hgn
    · exact h.nS g (.inr hs)
  · rintro g (hs | rfl) e
    · exact h.dj g hs e
    · exact hgS e
  · rintro g ((hs | rfl) | hs)
    · exact ⟨(h.lS g (.inl hs)).1, Nat.lt_of_lt_of_le (h.lS g (.inl hs)).2 hfr.size⟩
    · exact ⟨(own1.lt _ rfl).1, Nat.lt_of_lt_of_le hg1 hg2.size⟩
    · exact ⟨(h.lS g (.inr hs)).1, Nat.lt_of_lt_of_le (h.lS g (.inr hs)).2 hfr.size⟩
  · rw [cell_fr hfr h.l6 (hnot b6 ⟨h.n6m, fun e => (h.nS b6 (.inl e)).2.1 rfl⟩)]; exact h.c6
  · rw [imget_put]
    unfold addP
    by_cases e : t = x.t
    · rw [if_pos e, if_pos e, e]
      refine .inr ⟨by simp, g', cap', by rw [List.length_append]; rfl, .inr rfl, ?_⟩
      rw [List.length_append]
      exact own_kept own1 hg2 (fun k hk e => by have h9 : some g' = some k := hk; cases h9; cases e; exact hgn.1 rfl)
    · rw [if_neg e, if_neg e]
      rcases k2 t ht with ⟨e1, e2⟩ | ⟨e1, g, c, e2, e3, e4⟩
      · exact .inl ⟨e1, e2⟩
      · refine .inr ⟨e1, g, c, e2, .inl e3, own_fr e4 hfr (fun k hk => ?_)⟩
        have h9 : some g = some k := hk
        cases h9
        rintro (⟨c', h8⟩ | h8)
        · exact e (k3 t x.t g c c' ht hx e2 h8)
        · exact (h.nS g (.inl e3)).1 h8
  · rw [imget_put] at e e'
    have hlen : ∀ s, s ≠ x.t → addP pend x s = pend s := fun s hs => by unfold addP; rw [if_neg hs]
    by_cases h1 : t = x.t
    · by_cases h2 : t' = x.t
      · rw [h1, h2]
      · exfalso
        rw [if_pos h1] at e
        rw [if_neg h2, hlen t' h2] at e'
        simp only [Option.some.injEq, Value.slice.injEq, Addr.mk.injEq, and_true, true_and] at e
        rw [← e.1] at e'
        rcases hg with ⟨c2, hc2⟩ | hg
        · exact h2 (k3 t' x.t g' c' c2 ht' hx e' hc2)
        · have := (h.lS g' (.inl (hold _ _ _ ht' e'))).2; omega
    · rw [if_neg h1, hlen t h1] at e
      by_cases h2 : t' = x.t
      · exfalso
        rw [if_pos h2] at e'
        simp only [Option.some.injEq, Value.slice.injEq, Addr.mk.injEq, and_true, true_and] at e'
        rw [← e'.1] at e
        rcases hg with ⟨c2, hc2⟩ | hg
        · exact h1 (k3 t x.t g' c c2 ht hx e hc2)
        · have := (h.lS g' (.inl (hold _ _ _ ht e))).2; omega
      · rw [if_neg h2, hlen t' h2] at e'
        exact k3 t t' g c c' ht ht' e e'
  · have h9 : some b7 = some k := hk
    cases h9
    exact hnot b7 ⟨h.n7m, fun e => (h.nS b7 (.inl e)).2.2 rfl⟩
/-- Where a tick's insertion leaves the ticks. -/
theorem addT_split (ticks : List Int) (t : Int) (hs : ticks.Pairwise (fun a b => a < b)) (hn : t ∉ ticks) : addT ticks t = ticks.take (ticks.countP (fun x => decide (x < t))) ++ t :: ticks.drop (ticks.countP (fun x => decide (x < t))) := by
  unfold addT
  rw [if_neg hn]
  have key : ∀ l : List Int, l.Pairwise (fun a b => a < b) → t ∉ l → l.filter (fun x => decide (x < t)) = l.take (l.countP (fun x => decide (x < t))) ∧ l.filter (fun x => decide (t < x)) = l.drop (l.countP (fun x => decide (x < t))) := by
    intro l
    induction l with
    | nil => intro _ _; exact ⟨rfl, rfl⟩
    | cons a l ih =>
      intro hp hm
      rw [List.pairwise_cons] at hp
      obtain ⟨i1, i2⟩ := ih hp.2 (fun e => hm (List.mem_cons_of_mem _ e))
      have hat : a ≠ t := fun e => hm (by rw [e]; exact List.mem_cons_self)
      by_cases h : a < t
      · rw [List.filter_cons_of_pos (by simpa using h), List.filter_cons_of_neg (by simp; omega), List.countP_cons_of_pos (by simpa using h), List.take_succ_cons, List.drop_succ_cons, i1, i2]
        exact ⟨rfl, rfl⟩
      · have hc : (a :: l).countP (fun x => decide (x < t)) = 0 := by
          rw [List.countP_eq_zero]
          intro y hy
          rcases List.mem_cons.1 hy with rfl | hy
          · simpa using h
          · have := hp.1 y hy
            simp; omega
        rw [hc, List.take_zero, List.drop_zero]
        constructor
        · rw [List.filter_eq_nil_iff]
          intro y hy
          rcases List.mem_cons.1 hy with rfl | hy
          · simpa using h
          · have := hp.1 y hy
            simp; omega
        · rw [List.filter_eq_self]
          intro y hy
          rcases List.mem_cons.1 hy with rfl | hy
          · simp; omega
          · have := hp.1 y hy
            simp; omega
  obtain ⟨e1, e2⟩ := key ticks hs hn
  rw [e1, e2]
end
end Go.Proofs.YtmeefmoblkiebaaGreat
/- A region that draws its order and ends in stores: loads may be taken first where nobody writes their cells AHEAD OF THE STORES. -/
namespace Go.Proofs.YtmeefmoblkiebaaGreat
open Go.RowKit
set_option linter.unusedVariables false
set_option linter.unusedSimpArgs false
set_option maxHeartbeats 400000
set_option maxRecDepth 100000
section
variable {P : Program} {ops : Array Oper} {Q : Exit → Act → World → Prop} {md : Region.Mode} {S : World → Prop} {z n : Nat}
/-- Whatever order is picked, and S holds behind each operation from number z to n. -/
def wpAnyT (P : Program) (md : Region.Mode) (ops : Array Oper) (Q : Exit → Act → World → Prop) (S : World → Prop) (z n : Nat) : Nat → Array Bool → Act → World → Prop
  | 0, listed, a, w => Region.ready md ops listed = [] ∧ Q .normal a w
  | fuel + 1, listed, a, w =>
    (Region.ready md ops listed = [] → Q .normal a w) ∧
    ∀ i ∈ Region.ready md ops listed, wpOp P ops Q i (fun a' w' => (z ≤ i → i < n → S w') ∧ wpAnyT P md ops Q S z n fuel (listed.setIfInBounds i true) a' w') a w
theorem wpAny_of_T : ∀ (fuel : Nat) (listed : Array Bool) (a : Act) (w : World), wpAnyT P md ops Q S z n fuel listed a w → wpAny P md ops Q fuel listed a w
  | 0, _, _, _, h => h
  | fuel + 1, _, _, _, h => ⟨h.1, fun i hi => wpOp_mono (fun a' w' h' => wpAny_of_T fuel _ a' w' h'.2) (h.2 i hi)⟩
/-- Number j cannot come up ahead of number i. -/
def mustB (md : Region.Mode) (ops : Array Oper) : Nat → Nat → Nat → Bool
  | 0, _, _ => false
  | f + 1, i, j => match ops[j]? with
    | some oj => oj.after.any fun e => Region.binds md e && (e.on == i || mustB md ops f i e.on)
    | none => false
def Closed (md : Region.Mode) (ops : Array Oper) (listed : Array Bool) : Prop :=
  ∀ j oj, ops[j]? = some oj → listed.getD j false = true → ∀ e ∈ oj.after, Region.binds md e = true → listed.getD e.on false = true
theorem must_listed {listed : Array Bool} (hc : Closed md ops listed) : ∀ (f i j : Nat) (oj : Oper), ops[j]? = some oj → (∀ e ∈ oj.after, Region.binds md e = true → listed.getD e.on false = true) → mustB md ops f i j = true → listed.getD i false = true := by
  intro f
  induction f with
  | zero => intro i j oj hj he h; cases h
  | succ f ih =>
    intro i j oj hj he h
    unfold mustB at h
    rw [hj] at h
    simp only at h
    obtain ⟨e, hmem, hb⟩ := Array.any_eq_true'.1 h
    simp only [Bool.and_eq_true, Bool.or_eq_true, beq_iff_eq] at hb
    obtain ⟨hb1, hb2⟩ := hb
    have hl := he e hmem hb1
    rcases hb2 with rfl | hb2
    · exact hl
    · cases hq : ops[e.on]? with
      | none =>
        cases f with
        | zero => cases hb2
        | succ f => unfold mustB at hb2; rw [hq] at hb2; cases hb2
      | some oq => exact ih i e.on oq hq (hc e.on oq hq hl) hb2
theorem Closed.set {listed : Array Bool} (hc : Closed md ops listed) {i : Nat} (hi : i ∈ Region.ready md ops listed) : Closed md ops (listed.setIfInBounds i true) := by
  obtain ⟨_, oi, hoi, hall⟩ := mem_ready.1 hi
  intro j oj hj hl e he hb
  by_cases hij : i = j
  · subst hij
    have : oj = oi := Option.some.inj (hj.symm.trans hoi)
    subst this
    exact getD_set_true (hall e he hb)
  · rw [getD_set_ne false hij] at hl
    exact getD_set_true (hc j oj hj hl e he hb)
theorem wpAnyT_first {i : Nat} {oi : Oper} {v : Value} {F : Nat} (hi : ops[i]? = some oi) (hsel : ∀ (j : Nat) (o : Oper) cs b, ops[j]? = some o → o.op ≠ .select cs b)
    (hQ : ∀ c a w, Q (.panic c) (a.put oi.dst v) w → Q (.panic c) a w) (htail : ∀ j, n ≤ j → j < ops.size → mustB md ops F i j = true) :
    ∀ (fuel : Nat) (listed : Array Bool) (a : Act) (w : World), Closed md ops listed →
      (∀ j oj, ops[j]? = some oj → j ≠ i → listed.getD j true = false → (∀ e ∈ oj.after, Region.binds md e = true → e.on ≠ i) → oi.apart ops oj = true) →
      (∀ j, j < z → listed.getD j false = true) →
      i ∈ Region.ready md ops listed → YieldsIf P ops S oi v a → S w →
      wpAnyT P md ops Q S z n fuel (listed.setIfInBounds i true) (a.put oi.dst v) w → wpAnyT P md ops Q S z n (fuel + 1) listed a w := by
  intro fuel
  induction fuel with
  | zero =>
    intro listed a w _ _ _ hr hy hS H
    refine ⟨fun h => (by rw [h] at hr; cases hr), fun j hj => ?_⟩
    by_cases hji : j = i
    · subst hji; exact hy.wpOp hi hS ⟨fun _ _ => hS, H⟩
    · have := ready_mono hj hji
      rw [H.1] at this
      cases this
  | succ fuel ih =>
    intro listed a w hcl hfree hz hr hy hS H
    refine ⟨fun h => (by rw [h] at hr; cases hr), fun j hj => ?_⟩
    by_cases hji : j = i
    · subst hji; exact hy.wpOp hi hS ⟨fun _ _ => hS, H⟩
    · have h1 := H.2 j (ready_mono hj hji)
      obtain ⟨hjun, oj, hoj, hall⟩ := mem_ready.1 hj
      have hiun := (mem_ready.1 hr).1
      have hjn : j < n := by
        rcases Nat.lt_or_ge j n with h | h
        · exact h
        · have := must_listed hcl F i j oj hoj hall (htail j h (Array.getElem?_eq_some_iff.1 hoj).1)
          rcases Nat.lt_or_ge i listed.size with h' | h'
          · simp [h'] at hiun this; rw [hiun] at this; cases this
          · simp [Array.getElem?_eq_none h'] at hiun
      have hjz : z ≤ j := by
        rcases Nat.lt_or_ge j z with h | h
        · have h3 := hz j h
          rcases Nat.lt_or_ge j listed.size with h' | h'
          · simp [h'] at hjun h3; rw [hjun] at h3; cases h3
          · simp [Array.getElem?_eq_none h'] at h3
        · exact h
      have hnot : ∀ e ∈ oj.after, Region.binds md e = true → e.on ≠ i := fun e he hb heq => by
        have h1 := hall e he hb
        rw [heq] at h1
        rcases Nat.lt_or_ge i listed.size with h' | h'
        · simp [h'] at hiun h1; rw [hiun] at h1; cases h1
        · simp [Array.getElem?_eq_none h'] at h1
      have h2 := wpOp_putIf hoj (hfree j oj hoj hji hjun hnot) (fun cs b => hsel i oi cs b hi) (fun cs b => hsel j oj cs b hoj) hQ hy h1
      have hfree' : ∀ k ok, ops[k]? = some ok → k ≠ i → (listed.setIfInBounds j true).getD k true = false →
          (∀ e ∈ ok.after, Region.binds md e = true → e.on ≠ i) → oi.apart ops ok = true := fun k ok hk hki hun hno => by
        refine hfree k ok hk hki ?_ hno
        by_cases hjk : j = k
        · subst hjk; exact hjun
        · rw [getD_set_ne true hjk] at hun; exact hun
      refine wpOp_mono (fun a' w' h3 => ⟨h3.2.1, ih (listed.setIfInBounds j true) a' w' (hcl.set hj) hfree' (fun k hk => getD_set_true (hz k hk)) (ready_mono hr (Ne.symm hji)) h3.1 (h3.2.1 hjz hjn) ?_⟩) h2
      rw [Array.setIfInBounds_comm _ _ hji]
      exact h3.2.2
theorem wpAnyT_firstP {i : Nat} {oi : Oper} {v : Value} (hi : ops[i]? = some oi) (hiz : i < z) (hsel : ∀ (j : Nat) (o : Oper) cs b, ops[j]? = some o → o.op ≠ .select cs b)
    (hQ : ∀ c a w, Q (.panic c) (a.put oi.dst v) w → Q (.panic c) a w) :
    ∀ (fuel : Nat) (listed : Array Bool) (a : Act) (w : World),
      (∀ j oj, ops[j]? = some oj → j ≠ i → listed.getD j true = false → (∀ e ∈ oj.after, Region.binds md e = true → e.on ≠ i) → oi.apart ops oj = true) →
      i ∈ Region.ready md ops listed → YieldsIf P ops (fun _ => True) oi v a →
      wpAnyT P md ops Q S z n fuel (listed.setIfInBounds i true) (a.put oi.dst v) w → wpAnyT P md ops Q S z n (fuel + 1) listed a w := by
  intro fuel
  induction fuel with
  | zero =>
    intro listed a w _ hr hy H
    refine ⟨fun h => (by rw [h] at hr; cases hr), fun j hj => ?_⟩
    by_cases hji : j = i
    · subst hji; exact hy.wpOp hi trivial ⟨fun h => absurd h (by omega), H⟩
    · have := ready_mono hj hji
      rw [H.1] at this
      cases this
  | succ fuel ih =>
    intro listed a w hfree hr hy H
    refine ⟨fun h => (by rw [h] at hr; cases hr), fun j hj => ?_⟩
    by_cases hji : j = i
    · subst hji; exact hy.wpOp hi trivial ⟨fun h => absurd h (by omega), H⟩
    · have h1 := H.2 j (ready_mono hj hji)
      obtain ⟨hjun, oj, hoj, hall⟩ := mem_ready.1 hj
      have hiun := (mem_ready.1 hr).1
      have hnot : ∀ e ∈ oj.after, Region.binds md e = true → e.on ≠ i := fun e he hb heq => by
        have h1 := hall e he hb
        rw [heq] at h1
        rcases Nat.lt_or_ge i listed.size with h' | h'
        · simp [h'] at hiun h1; rw [hiun] at h1; cases h1
        · simp [Array.getElem?_eq_none h'] at h1
      have h2 := wpOp_putIf hoj (hfree j oj hoj hji hjun hnot) (fun cs b => hsel i oi cs b hi) (fun cs b => hsel j oj cs b hoj) hQ hy h1
      have hfree' : ∀ k ok, ops[k]? = some ok → k ≠ i → (listed.setIfInBounds j true).getD k true = false →
          (∀ e ∈ ok.after, Region.binds md e = true → e.on ≠ i) → oi.apart ops ok = true := fun k ok hk hki hun hno => by
        refine hfree k ok hk hki ?_ hno
        by_cases hjk : j = k
        · subst hjk; exact hjun
        · rw [getD_set_ne true hjk] at hun; exact hun
      refine wpOp_mono (fun a' w' h3 => ⟨h3.2.1, ih (listed.setIfInBounds j true) a' w' hfree' (ready_mono hr (Ne.symm hji)) h3.1 ?_⟩) h2
      rw [Array.setIfInBounds_comm _ _ hji]
      exact h3.2.2
def closedB (md : Region.Mode) (ops : Array Oper) (listed : Array Bool) : Bool :=
  (List.range ops.size).all fun j => !listed.getD j false || match ops[j]? with
    | some oj => oj.after.all fun e => !Region.binds md e || listed.getD e.on false
    | none => true
theorem closedB_spec {listed : Array Bool} (h : closedB md ops listed = true) : Closed md ops listed := by
  intro j oj hj hl e he hb
  have hjs : j < ops.size := (Array.getElem?_eq_some_iff.1 hj).1
  have h1 := List.all_eq_true.1 h j (List.mem_range.2 hjs)
  rw [hl, hj] at h1
  simp only [Bool.not_true, Bool.false_or] at h1
  have h2 := Array.all_eq_true'.1 h1 e he
  rw [hb] at h2
  simpa using h2
def tailB (md : Region.Mode) (ops : Array Oper) (F n i : Nat) : Bool := (List.range ops.size).all fun j => decide (j < n) || mustB md ops F i j
theorem tailB_spec {F i : Nat} (h : tailB md ops F n i = true) : ∀ j, n ≤ j → j < ops.size → mustB md ops F i j = true := by
  intro j h1 h2
  have := List.all_eq_true.1 h j (List.mem_range.2 h2)
  simp only [Bool.or_eq_true, decide_eq_true_eq] at this
  rcases this with h' | h'
  · omega
  · exact h'
theorem wpAnyT_take (F i : Nat) {oi : Oper} {v : Value} {fuel : Nat} {listed : Array Bool} {a : Act} {w : World} (hi : ops[i]? = some oi)
    (hs : Region.noSelect ops = true) (hf : Region.free md ops listed i = true) (hr : (Region.ready md ops listed).contains i = true) (hcl : closedB md ops listed = true) (ht : tailB md ops F n i = true) (hz : ((List.range z).all fun j => listed.getD j false) = true)
    (hQ : ∀ c a w, Q (.panic c) (a.put oi.dst v) w → Q (.panic c) a w) (hy : YieldsIf P ops S oi v a) (hS : S w)
    (h : wpAnyT P md ops Q S z n fuel (listed.setIfInBounds i true) (a.put oi.dst v) w) : wpAnyT P md ops Q S z n (fuel + 1) listed a w :=
  wpAnyT_first hi (Region.noSelect_spec hs) hQ (tailB_spec ht) fuel listed a w (closedB_spec hcl) (Region.free_spec hi hf) (fun j hj => List.all_eq_true.1 hz j (List.mem_range.2 hj)) (by simpa using hr) hy hS h
/-- What yields its value in whatever world, and is one of the first z. -/
theorem wpAnyT_takeP (i : Nat) {oi : Oper} {v : Value} {fuel : Nat} {listed : Array Bool} {a : Act} {w : World} (hi : ops[i]? = some oi) (hiz : i < z)
    (hs : Region.noSelect ops = true) (hf : Region.free md ops listed i = true) (hr : (Region.ready md ops listed).contains i = true)
    (hQ : ∀ c a w, Q (.panic c) (a.put oi.dst v) w → Q (.panic c) a w) (hy : YieldsIf P ops (fun _ => True) oi v a)
    (h : wpAnyT P md ops Q S z n fuel (listed.setIfInBounds i true) (a.put oi.dst v) w) : wpAnyT P md ops Q S z n (fuel + 1) listed a w :=
  wpAnyT_firstP hi hiz (Region.noSelect_spec hs) hQ fuel listed a w (Region.free_spec hi hf) (by simpa using hr) hy h
def AllReadyT (P : Program) (md : Region.Mode) (ops : Array Oper) (Q : Exit → Act → World → Prop) (S : World → Prop) (z n fuel : Nat) (listed : Array Bool) (a : Act) (w : World) (rs : List Nat) : Prop :=
  ∀ i ∈ rs, wpOp P ops Q i (fun a' w' => (z ≤ i → i < n → S w') ∧ wpAnyT P md ops Q S z n fuel (listed.setIfInBounds i true) a' w') a w
theorem AllReadyT.nil {fuel : Nat} {listed : Array Bool} {a : Act} {w : World} : AllReadyT P md ops Q S z n fuel listed a w [] := fun _ h => by cases h
theorem AllReadyT.cons {fuel : Nat} {listed : Array Bool} {a : Act} {w : World} {i : Nat} {o : Oper} {rs : List Nat} (ho : ops[i]? = some o)
    (h : ∀ K' : Act → World → Prop, Shut (∀ a w, (z ≤ i → i < n → S w) → ((z ≤ i → i < n → S w) → wpAnyT P md ops Q S z n fuel (listed.setIfInBounds i true) a w) → K' a w) → if Region.wanted o (yielded ops a.tmps) = true then Oper.wp P o a w K' Q else K' (a.put o.dst undef) w)
    (hs : AllReadyT P md ops Q S z n fuel listed a w rs) : AllReadyT P md ops Q S z n fuel listed a w (i :: rs) := fun j hj => by
  rcases List.mem_cons.1 hj with rfl | hj
  · exact wpOp_step ho (fun K' hK => h K' (fun a w hS hW => hK a w ⟨hS, hW hS⟩))
  · exact hs j hj
theorem wpAnyT_ready {rs : List Nat} {fuel : Nat} {listed : Array Bool} {a : Act} {w : World} (hr : Region.ready md ops listed = rs) (hne : rs ≠ [])
    (h : AllReadyT P md ops Q S z n fuel listed a w rs) : wpAnyT P md ops Q S z n (fuel + 1) listed a w := ⟨fun h0 => absurd (hr ▸ h0) hne, hr ▸ h⟩
theorem wpAnyT_done {listed : Array Bool} {a : Act} {w : World} (hr : Region.ready md ops listed = []) (h : Q .normal a w) : ∀ fuel, wpAnyT P md ops Q S z n fuel listed a w
  | 0 => ⟨hr, h⟩
  | _ + 1 => ⟨fun _ => h, by rw [hr]; simp⟩
theorem wp_region_T {id : Nat} {a : Act} {w : World} (z n : Nat) (S : World → Prop) (hm : P.follows .mixedOrders = true) (hS : S w.drew)
    (h : S w.drew → wpAnyT P .any ops Q S z n ops.size (Array.replicate ops.size false) a w.drew) : (Code.region id ops true).wp P Q a w :=
  wp_region_any hm (wpAny_of_T _ _ _ _ (h hS))
theorem tail_cut {fuel : Nat} {listed : Array Bool} {a : Act} {w : World} (R : Nat → Nat → Nat → Nat → Nat → Nat → Nat → Nat → Nat → World → Prop) (V : Nat → Nat → Nat → Nat → Nat → Nat → Nat → Nat → Nat → Act → Act) (f' : Nat) (Ls : Array Bool → Array Bool)
    (htail : ∀ L1 L2 L3 g1 c1 g2 c2 g3 c3 Y, R L1 L2 L3 g1 c1 g2 c2 g3 c3 Y → wpAnyT P md ops Q S z n f' (Ls listed) (V L1 L2 L3 g1 c1 g2 c2 g3 c3 a) Y)
    (hmain : (∀ L1 L2 L3 g1 c1 g2 c2 g3 c3 Y, R L1 L2 L3 g1 c1 g2 c2 g3 c3 Y → wpAnyT P md ops Q S z n f' (Ls listed) (V L1 L2 L3 g1 c1 g2 c2 g3 c3 a) Y) → wpAnyT P md ops Q S z n fuel listed a w) : wpAnyT P md ops Q S z n fuel listed a w := hmain htail
end
end Go.Proofs.YtmeefmoblkiebaaGreat
