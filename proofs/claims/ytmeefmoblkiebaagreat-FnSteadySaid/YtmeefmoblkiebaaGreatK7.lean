import Derived.Test.YtmeefmoblkiebaaGreatK6
import Derived.Deep.RegionHeld3
import Derived.Deep.CutRange
import Derived.BigQuiet
/- Pushes that are later by some ticks make all fall later by as many: plain law. -/
namespace Go.Proofs.YtmeefmoblkiebaaGreat
open Go.RowKit
set_option linter.unusedVariables false
set_option linter.unusedSimpArgs false
set_option maxHeartbeats 400000
set_option maxRecDepth 100000
def shF (d : Int) (f : Fa) : Fa := if f.t = -1 then f else ⟨f.t + d, f.f, f.b⟩
def shP (d : Int) (p : Pu) : Pu := ⟨p.x, p.y, p.s, p.t + d⟩
def shH (d : Int) (h : Ht) : Ht := (h.1 + d, h.2.1, h.2.2)
theorem ltH_sh (d : Int) (a b : Ht) : ltH (shH d a) (shH d b) = ltH a b := by
  have h1 : (shH d a).1 = a.1 + d := rfl
  have h2 : (shH d b).1 = b.1 + d := rfl
  have h3 : (shH d a).2 = a.2 := rfl
  have h4 : (shH d b).2 = b.2 := rfl
  rw [Bool.eq_iff_iff, ltH_iff, ltH_iff, h1, h2, h3, h4]
  constructor <;> intro h <;> omega
theorem bestH_sh (d : Int) (xs : List Ht) : bestH (xs.map (shH d)) = (bestH xs).map (shH d) := by
  cases h : bestH xs with
  | none => rw [bestH_none xs h]; rfl
  | some m =>
    rw [Option.map_some, bestH_iff]
    rw [bestH_iff] at h
    refine ⟨List.mem_map_of_mem h.1, ?_⟩
    intro x hx
    obtain ⟨y, hy, rfl⟩ := List.mem_map.1 hx
    rw [ltH_sh]
    exact h.2 y hy
theorem candP_sh (ps : List Pc) (d : Int) (i : Nat) : ∀ pl : List Pu, candP ps (pl.map (shP d)) i = (candP ps pl i).map (shH d)
  | [] => rfl
  | p :: pl => by
    have ih := candP_sh ps d i pl
    unfold candP at ih ⊢
    rw [List.map_cons, List.filterMap_cons, List.filterMap_cons, ih]
    by_cases h : (⟨p.x, p.y⟩ : Ce) = (ps.getD i default).at_
    · rw [if_pos (show (⟨(shP d p).x, (shP d p).y⟩ : Ce) = (ps.getD i default).at_ from h), if_pos h]; rfl
    · rw [if_neg (show ¬ (⟨(shP d p).x, (shP d p).y⟩ : Ce) = (ps.getD i default).at_ from h), if_neg h]
theorem shF_at (d : Int) (fs : List Fa) (k : Nat) (hk : k < fs.length) : (fs.map (shF d)).getD k default = shF d (fs.getD k default) := by
  rw [List.getD_eq_getElem?_getD, List.getD_eq_getElem?_getD, List.getElem?_eq_getElem (by simpa using hk), List.getElem?_eq_getElem hk]
  simp
theorem shF_t (d : Int) (hd : 0 ≤ d) (f : Fa) (h : -1 ≤ f.t) : ((shF d f).t = -1 ↔ f.t = -1) ∧ (f.t ≠ -1 → shF d f = ⟨f.t + d, f.f, f.b⟩) := by
  unfold shF
  by_cases h1 : f.t = -1
  · rw [if_pos h1]; exact ⟨Iff.rfl, fun h2 => absurd h1 h2⟩
  · rw [if_neg h1]
    refine ⟨?_, fun _ => rfl⟩
    show f.t + d = -1 ↔ _
    omega
theorem candN1_sh (ps : List Pc) (d : Int) (hd : 0 ≤ d) (fs : List Fa) (hf : ∀ k, k < fs.length → -1 ≤ (fs.getD k default).t) (i : Nat) (s : Int) : candN1 ps (fs.map (shF d)) i s = (candN1 ps fs i s).map (shH d) := by
  unfold candN1
  simp only [List.length_map]
  by_cases h : 0 ≤ fnd (nxt (ps.getD i default).at_ s) ps ∧ fnd (nxt (ps.getD i default).at_ s) ps < fs.length
  · have hk : (fnd (nxt (ps.getD i default).at_ s) ps).toNat < fs.length := by omega
    rw [shF_at d fs _ hk]
    obtain ⟨e1, e2⟩ := shF_t d hd _ (hf _ hk)
    by_cases h1 : (fs.getD (fnd (nxt (ps.getD i default).at_ s) ps).toNat default).t = -1
    · rw [if_neg (by rintro ⟨-, -, h2, -⟩; exact h2 (e1.2 h1)), if_neg (by rintro ⟨-, -, h2, -⟩; exact h2 h1)]
      rfl
    · rw [e2 h1]
      by_cases h3 : max (hitsV (ps.getD (fnd (nxt (ps.getD i default).at_ s) ps).toNat default).k (ps.getD (fnd (nxt (ps.getD i default).at_ s) ps).toNat default).t (fs.getD (fnd (nxt (ps.getD i default).at_ s) ps).toNat default).f) 0 / 2 ^ ((s + 2) % 4).toNat % 2 = 1
      · have hge := hf _ hk
        rw [if_pos ⟨h.1, h.2, by show _ + d ≠ -1; omega, h3⟩, if_pos ⟨h.1, h.2, h1, h3⟩]
        show some (_, _, _) = some (_, _, _)
        rw [Int.add_right_comm]
      · rw [if_neg (by rintro ⟨-, -, -, h4⟩; exact h3 h4), if_neg (by rintro ⟨-, -, -, h4⟩; exact h3 h4)]
        rfl
  · rw [if_neg (by rintro ⟨h1, h2, -⟩; exact h ⟨h1, h2⟩), if_neg (by rintro ⟨h1, h2, -⟩; exact h ⟨h1, h2⟩)]
    rfl
theorem dueC_sh (ps : List Pc) (pl : List Pu) (d : Int) (hd : 0 ≤ d) (fs : List Fa) (hf : ∀ k, k < fs.length → -1 ≤ (fs.getD k default).t) (i : Nat) : dueC ps (pl.map (shP d)) (fs.map (shF d)) i = (dueC ps pl fs i).map (shH d) := by
  have hN : candN ps (fs.map (shF d)) i 4 = (candN ps fs i 4).map (shH d) := by
    unfold candN
    rw [List.map_filterMap]
    congr 1
    funext s
    exact candN1_sh ps d hd fs hf i s
  unfold dueC
  rw [candP_sh, hN, ← List.map_append, List.filter_map]
  rfl
theorem due_sh (ps : List Pc) (pl : List Pu) (d : Int) (hd : 0 ≤ d) (fs : List Fa) (hf : ∀ k, k < fs.length → -1 ≤ (fs.getD k default).t) (i : Nat) (h0 : ∀ m ∈ dueC ps pl fs i, 0 ≤ m.1) : due ps (pl.map (shP d)) (fs.map (shF d)) i = shF d (due ps pl fs i) := by
  unfold due
  rw [dueC_sh ps pl d hd fs hf i, bestH_sh]
  cases h : bestH (dueC ps pl fs i) with
  | none => rfl
  | some m =>
    have := h0 m (bestH_mem _ m h)
    show faOf (some (shH d m)) = _
    unfold shF faOf
    rw [if_neg (by show m.1 ≠ -1; omega)]
    rfl
theorem okFa_sh (ps : List Pc) (pl : List Pu) (d : Int) (hd : 0 ≤ d) (hd1 : ∀ j, j < ps.length → 1 ≤ (ps.getD j default).d) (hp : ∀ p ∈ pl, 0 ≤ p.t) (fs : List Fa) (h : okFa ps pl fs) : okFa ps (pl.map (shP d)) (fs.map (shF d)) := by
  have hf : ∀ k, k < fs.length → -1 ≤ (fs.getD k default).t := fun k hk => h.2.1 k (by rw [← h.1]; exact hk)
  refine ⟨by rw [List.length_map, h.1], ?_, ?_⟩
  · intro i hi
    have hi2 : i < fs.length := by rw [h.1]; exact hi
    rw [shF_at d fs i hi2]
    have := hf i hi2
    unfold shF
    split
    · exact this
    · show -1 ≤ (fs.getD i default).t + d
      omega
  · intro i hi
    have hi2 : i < fs.length := by rw [h.1]; exact hi
    rw [shF_at d fs i hi2, due_sh ps pl d hd fs hf i (fun m hm => due_some ps pl fs i hd1 hp h m hm), ← h.2.2 i hi]
theorem runOf_sh (ps : List Pc) (pl : List Pu) (d : Int) (hd : 0 ≤ d) (G : Good ps pl) (G' : Good ps (pl.map (shP d))) : runOf ps (pl.map (shP d)) = (runOf ps pl).map (shF d) :=
  (runOf_eq ps _ _ G' (okFa_sh ps pl d hd G.d1 G.t0 _ (runOf_ok ps pl G))).symm
end Go.Proofs.YtmeefmoblkiebaaGreat
/- Steady machines: plain law of FnSteady. -/
namespace Go.Proofs.YtmeefmoblkiebaaGreat
open Go.RowKit
set_option linter.unusedVariables false
set_option linter.unusedSimpArgs false
set_option maxHeartbeats 400000
set_option maxRecDepth 100000
theorem least_nat (P : Nat → Prop) : (∃ n, P n) → ∃ n, P n ∧ ∀ m, m < n → ¬ P m := by
  rintro ⟨n, hn⟩
  induction n using Nat.strongRecOn with
  | _ n ih =>
    by_cases h : ∃ m, m < n ∧ P m
    · obtain ⟨m, hm, hp⟩ := h
      exact ih m hm hp
    · exact ⟨n, hn, fun m hm hp => h ⟨m, hm, hp⟩⟩
theorem usFind_spec (p : Nat → Nat → Bool) (R : Nat) : ((∀ r, r < R → ∀ c, c < R → p r c = false) ∧ usFind p R = none) ∨
    ∃ r c, r < R ∧ c < R ∧ p r c = true ∧ (∀ j, j < r → ∀ d, d < R → p j d = false) ∧ usFind p R = some (r, c) := by
  by_cases h : ∃ r, r < R ∧ ∃ c, c < R ∧ p r c = true
  · obtain ⟨r, ⟨hr, hc⟩, hmin⟩ := least_nat _ h
    obtain ⟨c, ⟨hc1, hc2⟩, hcmin⟩ := least_nat _ hc
    have h0 : ∀ j, j < r → ∀ d, d < R → p j d = false := by
      intro j hj d hd
      cases e : p j d with
      | false => rfl
      | true => exact absurd ⟨by omega, d, hd, e⟩ (hmin j hj)
    have h1 : ∀ d, d < c → p r d = false := by
      intro d hd
      cases e : p r d with
      | false => rfl
      | true => exact absurd ⟨by omega, e⟩ (hcmin d hd)
    exact .inr ⟨r, c, hr, hc1, hc2, h0, usFind_yes p R r c hr hc1 h0 h1 hc2⟩
  · have h0 : ∀ r, r < R → ∀ c, c < R → p r c = false := by
      intro r hr c hc
      cases e : p r c with
      | false => rfl
      | true => exact absurd ⟨r, hr, c, hc, e⟩ h
    exact .inl ⟨h0, usFind_no p R h0⟩
theorem us_cases (m : Mc) (b : Int) (hv : vMc m = true) (hn : m.ins.length ≤ 3) (hb : 1 ≤ b ∧ b ≤ 4) :
    (usCode m b = 6 ∧ usRow m b = 0 ∧ usLate m b = [] ∧ ∀ r, r < mRows m → ∀ c, c < mRows m → usP m b r c = false) ∨
    ∃ r c, r < mRows m ∧ c < mRows m ∧ usCode m b = 0 ∧ usRow m b = (r : Int) ∧ usLate m b = lbList m.ins.length c b ∧ usP m b r c = true ∧ ∀ j, j < r → ∀ d, d < mRows m → usP m b j d = false := by
  have hst : stCode m b = 0 := by
    unfold stCode
    rw [if_pos hv, if_pos (by simp [inB]; omega), if_pos (by omega)]
  unfold usCode usRow usLate usOpt
  rw [if_pos hst]
  rcases usFind_spec (usP m b) (mRows m) with ⟨h1, h2⟩ | ⟨r, c, h1, h2, h3, h4, h5⟩
  · rw [h2]
    exact .inl ⟨by unfold usCodeO; rw [if_pos hst], rfl, rfl, h1⟩
  · rw [h5]
    exact .inr ⟨r, c, h1, h2, by unfold usCodeO; rw [if_pos hst], rfl, rfl, h3, h4⟩
theorem hz_ok (m : Mc) (r : Nat) (b : Int) (hv : vMc m = true) (hr : r < mRows m) (hb : 1 ≤ b ∧ b ≤ 4) : hzCode m r b = 0 ∧ hzList m r b = hzTo (hzP m r b) m.ins.length := by
  have h : hzCode m r b = 0 := by
    unfold hzCode
    rw [if_pos hv, if_pos (by simp [inB]; omega)]
  refine ⟨h, ?_⟩
  unfold hzList
  rw [if_pos h, Int.toNat_natCast]
theorem hzP_usP (m : Mc) (r : Nat) (b : Int) (i : Nat) : hzP m r b i = usP m b r (2 ^ i) := rfl
theorem hzTo_iff (p : Nat → Bool) (n i : Nat) (hi : i < n) : decide ((i : Int) ∈ hzTo p n) = p i := by
  rw [Bool.eq_iff_iff, decide_eq_true_eq]
  unfold hzTo
  rw [List.mem_map]
  constructor
  · rintro ⟨j, hj, he⟩
    have e : j = i := by omega
    subst e
    exact (List.mem_filter.1 hj).2
  · intro h
    exact ⟨i, List.mem_filter.2 ⟨List.mem_range.2 hi, h⟩, rfl⟩
theorem hzTo_pos (p : Nat → Bool) (n : Nat) (h : 0 < (hzTo p n).length) : ∃ i, i < n ∧ p i = true := by
  unfold hzTo at h
  rw [List.length_map] at h
  obtain ⟨x, hx⟩ := List.exists_mem_of_length_pos h
  have := List.mem_filter.1 hx
  exact ⟨x, List.mem_range.1 this.1, this.2⟩
theorem ask_ok0 (m : Mc) (r : Nat) (late : List Int) (hv : vMc m = true) (hr : r < mRows m) (hl : late.length = m.ins.length) (ha : ∀ x ∈ late, 0 ≤ x ∧ x ≤ 100) : mAsk m r late = 0 ∧ oiVal m r late = (mOut m r late : Int) := by
  have h : mAsk m r late = 0 := by
    unfold mAsk
    rw [if_pos hv, if_pos]
    unfold askRow
    simp only [Bool.and_eq_true, decide_eq_true_eq, List.all_eq_true]
    refine ⟨⟨by simp [inB]; omega, hl⟩, fun x hx => ?_⟩
    have := ha x hx
    unfold in100
    simp [inB]; omega
  refine ⟨h, ?_⟩
  unfold oiVal
  rw [if_pos h, Int.toNat_natCast]
theorem zeros_in (n : Nat) : (zeros n).length = n ∧ ∀ x ∈ zeros n, 0 ≤ x ∧ x ≤ 100 := by
  refine ⟨by simp [zeros], fun x hx => ?_⟩
  have := List.eq_of_mem_replicate hx
  omega
theorem lb_in (n c : Nat) (b : Int) (hb : 1 ≤ b ∧ b ≤ 4) : (lbList n c b).length = n ∧ ∀ x ∈ lbList n c b, 0 ≤ x ∧ x ≤ 100 := by
  refine ⟨lbList_len n c b, fun x hx => ?_⟩
  obtain ⟨i, hi, rfl⟩ := List.getElem_of_mem hx
  have hin : i < n := by rw [lbList_len] at hi; exact hi
  have e : (lbList n c b)[i] = if i < n ∧ c.testBit i = true then b else 0 := lbSt_get n c b n i hin
  rw [e]
  split <;> omega
theorem rep_in (n : Nat) (b : Int) (hb : 1 ≤ b ∧ b ≤ 4) : (List.replicate n b).length = n ∧ ∀ x ∈ List.replicate n b, 0 ≤ x ∧ x ≤ 100 := by
  refine ⟨by simp, fun x hx => ?_⟩
  have := List.eq_of_mem_replicate hx
  omega
theorem bitsTo_congr (ts us : List Int) : ∀ k, (∀ i, i < k → (0 ≤ ts.getD i 0 ↔ 0 ≤ us.getD i 0)) → bitsTo ts k = bitsTo us k := by
  intro k
  induction k with
  | zero => intro _; rfl
  | succ k ih =>
    intro h
    unfold bitsTo
    rw [ih (fun i hi => h i (by omega))]
    by_cases h1 : 0 ≤ ts.getD k 0
    · rw [if_pos h1, if_pos ((h k (by omega)).1 h1)]
    · rw [if_neg h1, if_neg (fun h2 => h1 ((h k (by omega)).2 h2))]
theorem mPuTo_sh (ins : List Po) (r n : Nat) (b : Int) : ∀ k, k ≤ n → mPuTo ins r (List.replicate n b) k = (mPuTo ins r (zeros n) k).map (shP b) := by
  intro k
  induction k with
  | zero => intro _; rfl
  | succ k ih =>
    intro hk
    have e : puOf ins (List.replicate n b) k = shP b (puOf ins (zeros n) k) := by
      have h1 : (List.replicate n b).getD k 0 = b := by rw [List.getD_eq_getElem?_getD, List.getElem?_replicate, if_pos (by omega)]; rfl
      have h2 : (zeros n).getD k 0 = 0 := by unfold zeros; rw [List.getD_eq_getElem?_getD, List.getElem?_replicate, if_pos (by omega)]; rfl
      unfold puOf shP
      rw [h1, h2]
      simp
    unfold mPuTo
    rw [ih (by omega), List.map_append]
    congr 1
    split
    · rw [e]; rfl
    · rfl
theorem late_good (m : Mc) (r : Nat) (late : List Int) (hv : vMc m = true) (hok : m.ok) (hl : lateOk late) : Good m.bd.ps (mPu m r late) :=
  good_bd m.bd (vMc_parts m hv).1 _ (mPu_ok m hv hok r late hl).2.1
theorem rep_late (n : Nat) (b : Int) (h0 : 0 ≤ b) (h1 : b ≤ 100) : lateOk (List.replicate n b) := by
  intro i
  rw [List.getD_eq_getElem?_getD, List.getElem?_replicate]
  split
  · exact ⟨h0, h1⟩
  · exact ⟨Int.le_refl _, by decide⟩
/-- Where all inputs are late by the same, the outputs are the same. -/
theorem mOut_all (m : Mc) (r : Nat) (b : Int) (hv : vMc m = true) (hok : m.ok) (h0 : 0 ≤ b) (h1 : b ≤ 100) : mOut m r (List.replicate m.ins.length b) = mOut m r (zeros m.ins.length) := by
  have G0 := late_good m r (zeros m.ins.length) hv hok (rep_late _ 0 (by omega) (by omega))
  have G1 := late_good m r (List.replicate m.ins.length b) hv hok (rep_late _ b h0 h1)
  have e : mPu m r (List.replicate m.ins.length b) = (mPu m r (zeros m.ins.length)).map (shP b) := mPuTo_sh m.ins r _ b _ (Nat.le_refl _)
  rw [e] at G1
  have e2 : mFa m r (List.replicate m.ins.length b) = (mFa m r (zeros m.ins.length)).map (shF b) := by
    unfold mFa
    rw [e]
    exact runOf_sh m.bd.ps _ b h0 G0 G1
  have hf : okFa m.bd.ps (mPu m r (zeros m.ins.length)) (mFa m r (zeros m.ins.length)) := runOf_ok _ _ G0
  unfold mOut
  refine bitsTo_congr _ _ _ (fun i hi => ?_)
  have hg : ∀ L, (mTk m r L).getD i 0 = ((mFa m r L).getD (fnd m.outs[i] m.bd.ps).toNat default).t := by
    intro L
    unfold mTk
    rw [List.getD_eq_getElem?_getD, List.getElem?_map, List.getElem?_eq_getElem hi]
    rfl
  rw [hg, hg, e2]
  have ho := (vMc_parts m hv).2.2.2.2.2.2.2.2
  have hoi := List.all_eq_true.1 ho m.outs[i] (List.getElem_mem hi)
  unfold outOk at hoi
  rw [decide_eq_true_eq] at hoi
  have hlt := fnd_lt m.outs[i] m.bd.ps hoi
  rw [shF_at b _ _ (by rw [hf.1]; exact hlt)]
  have ht := hf.2.1 _ hlt
  unfold shF
  split
  · exact Iff.rfl
  · show 0 ≤ _ + b ↔ _
    omega
end Go.Proofs.YtmeefmoblkiebaaGreat
/- Contracts: the source of choices (spec.l00Src). -/
namespace Go.Proofs.YtmeefmoblkiebaaGreat
open Go.RowKit
set_option linter.unusedVariables false
set_option linter.unusedSimpArgs false
set_option maxHeartbeats 400000
set_option maxRecDepth 100000
abbrev U8c (n : Int) : List Value := [.int .u8 n]
theorem U8c_len (n : Int) : (U8c n).length = 1 := rfl
def BytesOk (code : List Int) : Prop := code.length ≤ 10000 ∧ ∀ k (h : k < code.length), 0 ≤ code[k] ∧ code[k] ≤ 255
/-- A source of choices: at most k have been drawn. -/
def SrcAt (w : World) (p : Nat) (code : List Int) (k : Nat) : Prop :=
  ∃ (a : Option Addr) (cap n : Nat) (seed : Int), w.heap[p]? = some (.cells #[.slice a code.length cap, .int .i64 (n : Int), .int .u64 seed] 136 (0, 0)) ∧ SlAt p w a (flat U8c code) ∧ n ≤ k
theorem SrcAt.lt {w : World} {p : Nat} {code : List Int} {k : Nat} (h : SrcAt w p code k) : p < w.heap.size := by
  obtain ⟨a, cap, n, seed, hh, -⟩ := h
  exact lt_of_block hh
theorem SrcAt.le {w : World} {p : Nat} {code : List Int} {k k' : Nat} (h : SrcAt w p code k) (hk : k ≤ k') : SrcAt w p code k' := by
  obtain ⟨a, cap, n, seed, hh, h1, h2⟩ := h
  exact ⟨a, cap, n, seed, hh, h1, Nat.le_trans h2 hk⟩
theorem SlAt.grownP {B p : Nat} {w w' : World} {a : Option Addr} {xs : List Value} {row : Option Nat} (hp : SlAt B w a xs) (h : w.grownBy w' row) (hB : B ≤ w.heap.size) (hr : ∀ g, row = some g → B ≤ g) : SlAt B w' a xs := by
  intro i hi
  obtain ⟨b, off, h1, h2, h3⟩ := hp i hi
  refine ⟨b, off, h1, h2, ?_⟩
  rw [World.cell?_of_block (a := ⟨b, off + i, none⟩) (h.block b (by omega) (fun e => by have := hr b e.symm; omega))]
  exact h3
/-- A source that is left alone. -/
theorem SrcAt.grown {w w' : World} {p : Nat} {code : List Int} {k : Nat} {row : Option Nat} (h : SrcAt w p code k) (hg : w.grownBy w' row) (hr : ∀ g, row = some g → p < g) : SrcAt w' p code k := by
  have hlt := h.lt
  obtain ⟨a, cap, n, seed, hh, h1, h2⟩ := h
  refine ⟨a, cap, n, seed, ?_, h1.grownP (p := p) hg (by omega) (fun g e => by have := hr g e; omega), h2⟩
  rw [hg.block p hlt (fun e => by have := hr p e.symm; omega)]
  exact hh
theorem SrcAt.step {w w' : World} {p : Nat} {code : List Int} {k B : Nat} (h : SrcAt w p code k) (hb : Below B w w') (hp : p < B) : SrcAt w' p code k := by
  obtain ⟨a, cap, n, seed, hh, h1, h2⟩ := h
  exact ⟨a, cap, n, seed, by rw [hb.block p hp]; exact hh, h1.below hb (by omega), h2⟩
theorem three_cells {w : World} {p : Nat} {x y z : Value} {T : TypeId} (h : w.heap[p]? = some (.cells #[x, y, z] T (0, 0))) :
    w.cell? ⟨p, 0, none⟩ = some x ∧ w.cell? ⟨p, 1, none⟩ = some y ∧ w.cell? ⟨p, 2, none⟩ = some z ∧ ∀ i, w.frozen? ⟨p, i, none⟩ = false := by
  refine ⟨by simp [World.cell?, h], by simp [World.cell?, h], by simp [World.cell?, h], fun i => by simp [World.frozen?, h]⟩
theorem three_set1 {w : World} {p : Nat} {x y z u : Value} {T : TypeId} (h : w.heap[p]? = some (.cells #[x, y, z] T (0, 0))) : (w.setCell ⟨p, 1, none⟩ u).heap[p]? = some (.cells #[x, u, z] T (0, 0)) := by
  have hlt := lt_of_block h
  have h' : w.heap[p] = .cells #[x, y, z] T (0, 0) := by simpa [Array.getElem?_eq_getElem hlt] using h
  show (w.heap.modify p _)[p]? = _
  rw [Array.getElem?_eq_getElem (by simpa using hlt), Array.getElem_modify_self, h']
  rfl
theorem three_set2 {w : World} {p : Nat} {x y z u : Value} {T : TypeId} (h : w.heap[p]? = some (.cells #[x, y, z] T (0, 0))) : (w.setCell ⟨p, 2, none⟩ u).heap[p]? = some (.cells #[x, y, u] T (0, 0)) := by
  have hlt := lt_of_block h
  have h' : w.heap[p] = .cells #[x, y, z] T (0, 0) := by simpa [Array.getElem?_eq_getElem hlt] using h
  show (w.heap.modify p _)[p]? = _
  rw [Array.getElem?_eq_getElem (by simpa using hlt), Array.getElem_modify_self, h']
  rfl
theorem grown_set1 (w : World) (p o : Nat) (u : Value) : w.grownBy (w.setCell ⟨p, o, none⟩ u) (some p) :=
  ⟨rfl, rfl, rfl, by simp, fun k _ hk => heap_setCell_other w ⟨p, o, none⟩ k u (fun e => hk (by simp [e]))⟩
theorem and255 (y : Int) : 0 ≤ bits .and .u64 y 255 ∧ bits .and .u64 y 255 ≤ 255 := by
  have h1 : ((BitVec.ofInt 64 y &&& BitVec.ofInt 64 255).toNat : Nat) ≤ 255 := by
    rw [BitVec.toNat_and]
    exact Nat.le_trans Nat.and_le_right (by decide)
  have h2 : bits .and .u64 y 255 = ((BitVec.ofInt 64 y &&& BitVec.ofInt 64 255).toNat : Int) := by
    show IntKind.u64.wrap ((BitVec.ofInt 64 y &&& BitVec.ofInt 64 255).toNat : Int) = _
    exact wrap_u64 _ (by omega) (by omega)
  rw [h2]
  omega
theorem src_facts {w : World} {p n k cap : Nat} {seed : Int} {code : List Int} {a : Option Addr} (hh : w.heap[p]? = some (.cells #[.slice a code.length cap, .int .i64 (n : Int), .int .u64 seed] 136 (0, 0))) (hsl : SlAt p w a (flat U8c code)) (hle : n ≤ k) :
    ∀ W : World, w.grownBy W none → w.grownBy W (some p) ∧ (W.cell? ⟨p, 0, none⟩ = some (.slice a code.length cap) ∧ W.cell? ⟨p, 1, none⟩ = some (.int .i64 (n : Int)) ∧ W.cell? ⟨p, 2, none⟩ = some (.int .u64 seed) ∧ ∀ i, W.frozen? ⟨p, i, none⟩ = false) ∧
      ((W.setCell ⟨p, 1, none⟩ (.int .i64 ((n : Int) + 1))).cell? ⟨p, 0, none⟩ = some (.slice a code.length cap) ∧ (W.setCell ⟨p, 1, none⟩ (.int .i64 ((n : Int) + 1))).cell? ⟨p, 1, none⟩ = some (.int .i64 ((n : Int) + 1)) ∧ (W.setCell ⟨p, 1, none⟩ (.int .i64 ((n : Int) + 1))).cell? ⟨p, 2, none⟩ = some (.int .u64 seed) ∧ ∀ i, (W.setCell ⟨p, 1, none⟩ (.int .i64 ((n : Int) + 1))).frozen? ⟨p, i, none⟩ = false) ∧
      (∀ u : Int, ((W.setCell ⟨p, 1, none⟩ (.int .i64 ((n : Int) + 1))).setCell ⟨p, 2, none⟩ (.int .u64 u)).cell? ⟨p, 0, none⟩ = some (.slice a code.length cap)) ∧
      (∀ u : Int, ((W.setCell ⟨p, 1, none⟩ (.int .i64 ((n : Int) + 1))).setCell ⟨p, 2, none⟩ (.int .u64 u)).cell? ⟨p, 1, none⟩ = some (.int .i64 ((n : Int) + 1))) ∧
      (∀ u : Int, ((W.setCell ⟨p, 1, none⟩ (.int .i64 ((n : Int) + 1))).setCell ⟨p, 2, none⟩ (.int .u64 u)).cell? ⟨p, 2, none⟩ = some (.int .u64 u)) ∧ True ∧
      (∀ u : Int, SrcAt ((W.setCell ⟨p, 1, none⟩ (.int .i64 ((n : Int) + 1))).setCell ⟨p, 2, none⟩ (.int .u64 u)) p code (k + 1) ∧ w.grownBy ((W.setCell ⟨p, 1, none⟩ (.int .i64 ((n : Int) + 1))).setCell ⟨p, 2, none⟩ (.int .u64 u)) (some p)) := by
  intro W hg
  have hlt := lt_of_block hh
  have hgp : w.grownBy W (some p) := ⟨hg.os, hg.tape, hg.output, hg.size, fun k hk _ => hg.block k hk (by simp)⟩
  have hH : W.heap[p]? = some (.cells #[.slice a code.length cap, .int .i64 (n : Int), .int .u64 seed] 136 (0, 0)) := by rw [hg.block p hlt (by simp)]; exact hh
  have hltW := lt_of_block hH
  have h1 := three_set1 (u := .int .i64 ((n : Int) + 1)) hH
  refine ⟨hgp, three_cells hH, three_cells h1, fun u => (three_cells (three_set2 h1)).1, fun u => (three_cells (three_set2 h1)).2.1, fun u => (three_cells (three_set2 h1)).2.2.1, trivial, ?_⟩
  intro u
  have h2 := three_set2 (u := .int .u64 u) h1
  refine ⟨⟨a, cap, n + 1, u, h2, ?_, by omega⟩, grown_trans hgp (grown_trans (grown_set1 W p 1 _) (grown_set1 _ p 2 _))⟩
  have h3 : SlAt p W a (flat U8c code) := hsl.grownP (p := p) hg (by omega) (fun g e => by cases e)
  exact (h3.grownP (p := p) (grown_set1 W p 1 _) (by omega) (fun g e => by cases e; exact Nat.le_refl _)).grownP (p := p) (grown_set1 _ p 2 _) (by simp; omega) (fun g e => by cases e; exact Nat.le_refl _)
theorem wrap_i8' {n : Int} (h1 : -9000000000000000000 ≤ n) (h2 : n ≤ 9000000000000000000) : wrap64 n = n := by unfold wrap64; omega
theorem l00From_any (a : Option Addr) (cap : Nat) (code : List Int) (w : World) (h : SlAt w.heap.size w a (flat U8c code)) :
    Calls Tryz.prog 42 #[.slice a code.length cap] w fun e w' => e = .returned (.pointer (some ⟨w.heap.size, 0, none⟩)) ∧ SrcAt w' w.heap.size code 0 ∧ Below w.heap.size w w' := by
  have hb : Below w.heap.size w (w.alloc (.cells #[.slice a code.length cap, .int .i64 0, .int .u64 0] 136)) := bl_alloc (Below.refl _ _)
  have hs : SrcAt (w.alloc (.cells #[.slice a code.length cap, .int .i64 0, .int .u64 0] 136)) w.heap.size code 0 := by
    refine ⟨a, cap, 0, 0, ?_, h.below hb (Nat.le_refl _), Nat.le_refl _⟩
    exact heap_alloc_new _ _
  go_enter Tryz.func42, Tryz.ntmps42
  go_wp2
  go_ret
  exact ⟨rfl, hs, hb⟩
theorem srcNext_any (p : Nat) (code : List Int) (k : Nat) (w : World) (hs : SrcAt w p code k) (hc : BytesOk code) (hk : k ≤ 1000000) :
    Calls Tryz.prog 118 #[.pointer (some ⟨p, 0, none⟩)] w fun e w' => ∃ v : Int, e = .returned (.int .i64 v) ∧ 0 ≤ v ∧ v ≤ 255 ∧ SrcAt w' p code (k + 1) ∧ w.grownBy w' (some p) := by
  obtain ⟨a, cap, n, seed, hh, hsl, hle⟩ := hs
  have hlt := lt_of_block hh
  have FACTS := Lib.hid (src_facts (code := code) (k := k) hh hsl hle)
  obtain ⟨c0, c1, c2, hf⟩ := three_cells hh
  have hw : IntKind.i64.wrap ((n : Int) + 1) = (n : Int) + 1 := wrap_i64' _ (by omega) (by omega)
  have hcl := hc.1
  rcases dec_cases ((n : Int) < (code.length : Int)) with ⟨g1, g2⟩ | ⟨g1, g2⟩
  · have hn : n < code.length := by omega
    obtain ⟨b, off, rfl, hbp, hget⟩ := hsl.get U8c_len (by omega) hn
    have hget0 := hget 0 _ rfl
    rw [Nat.mul_one, Nat.add_zero] at hget0
    obtain ⟨b0, b1⟩ := hc.2 n hn
    obtain ⟨v, hv⟩ : ∃ v, v = code[n] := ⟨_, rfl⟩
    rw [← hv] at hget0 b0 b1
    have hwv : IntKind.i64.wrap v = v := wrap_i64' _ (by omega) (by omega)
    have g3 : decide ((n : Int) + 1 ≤ (code.length : Int)) = true := by simp; omega
    clear hget hsl hle hv hh
    go_enter Tryz.func118, Tryz.ntmps118
    go_wp2_with fail
    go_quiet (fail)
    go_wp2_with fail
    go_quiet (fail)
    generalize hW : World.drewN _ nq = W
    obtain ⟨hgW, ⟨p0, p1, p2, pf⟩, ⟨d0, d1, d2, hf1⟩, e0, e1, e2, -, key⟩ := FACTS.out W (by rw [← hW]; exact ⟨rfl, rfl, rfl, Nat.le_refl _, fun _ _ _ => rfl⟩)
    clear c0 c1 c2 hf hget0 hW
    go_wp2
    go_quiet (fail)
    go_wp2
    go_ret
    obtain ⟨K1, K2⟩ := key (IntKind.u64.wrap (IntKind.u64.wrap (IntKind.u64.wrap (seed * 6364136223846793005) + v) + 1442695040888963407))
    exact ⟨_, rfl, b0, b1, K1.grown (row := none) ⟨rfl, rfl, rfl, Nat.le_refl _, fun _ _ _ => rfl⟩ (fun g e => by cases e), grown_trans K2 ⟨rfl, rfl, rfl, Nat.le_refl _, fun _ _ _ => rfl⟩⟩
  · have g3 : decide ((n : Int) + 1 ≤ (code.length : Int)) = false := by simp; omega
    clear hsl hle hh
    go_enter Tryz.func118, Tryz.ntmps118
    go_wp2_with fail
    go_quiet (fail)
    generalize hW : World.drewN _ nq = W
    obtain ⟨hgW, ⟨p0, p1, p2, pf⟩, ⟨d0, d1, d2, hf1⟩, e0, e1, e2, -, key⟩ := FACTS.out W (by rw [← hW]; exact ⟨rfl, rfl, rfl, Nat.le_refl _, fun _ _ _ => rfl⟩)
    clear c0 c1 c2 hf hW
    go_wp2
    go_quiet (fail)
    go_wp2
    go_ret
    obtain ⟨K1, K2⟩ := key (IntKind.u64.wrap (IntKind.u64.wrap (IntKind.u64.wrap (seed * 6364136223846793005)) + 1442695040888963407))
    have h255 := and255 (IntKind.u64.wrap (IntKind.u64.wrap (IntKind.u64.wrap (seed * 6364136223846793005)) + 1442695040888963407) / 1099511627776)
    have e255 : wrap64 (bits .and .u64 (IntKind.u64.wrap (IntKind.u64.wrap (IntKind.u64.wrap (seed * 6364136223846793005)) + 1442695040888963407) / 1099511627776) 255) = bits .and .u64 (IntKind.u64.wrap (IntKind.u64.wrap (IntKind.u64.wrap (seed * 6364136223846793005)) + 1442695040888963407) / 1099511627776) 255 := wrap_i8' (by omega) (by omega)
    refine ⟨_, rfl, ?_, ?_, K1.grown (row := none) ⟨rfl, rfl, rfl, Nat.le_refl _, fun _ _ _ => rfl⟩ (fun g e => by cases e), grown_trans K2 ⟨rfl, rfl, rfl, Nat.le_refl _, fun _ _ _ => rfl⟩⟩
    · rw [e255]; exact h255.1
    · rw [e255]; exact h255.2
end Go.Proofs.YtmeefmoblkiebaaGreat
/- Contracts: numbers and chances from the source of choices. -/
namespace Go.Proofs.YtmeefmoblkiebaaGreat
open Go.RowKit
set_option linter.unusedVariables false
set_option linter.unusedSimpArgs false
set_option maxHeartbeats 400000
set_option maxRecDepth 100000
theorem pick_any (p : Nat) (code : List Int) (k : Nat) (w : World) (n : Int) (hs : SrcAt w p code k) (hc : BytesOk code) (hk : k ≤ 900000) (hn : n ≤ 1000000) :
    Calls Tryz.prog 67 #[.pointer (some ⟨p, 0, none⟩), .int .i64 n] w fun e w' => ∃ v : Int, e = .returned (.int .i64 v) ∧ 0 ≤ v ∧ v < max n 1 ∧ SrcAt w' p code (k + 2) ∧ w.grownBy w' (some p) := by
  rcases dec_cases (n ≤ 1) with ⟨g1, g2⟩ | ⟨g1, g2⟩
  · go_enter Tryz.func67, Tryz.ntmps67
    go_wp2
    go_ret
    exact ⟨0, rfl, by omega, by omega, hs.le (by omega), ⟨rfl, rfl, rfl, Nat.le_refl _, fun _ _ _ => rfl⟩⟩
  · rcases dec_cases (n > 200) with ⟨g3, g4⟩ | ⟨g3, g4⟩
    · go_enter Tryz.func67, Tryz.ntmps67
      go_wp2_with fail
      refine (srcNext_any p code k w hs hc (by omega)).mono ?_
      rintro e w1 ⟨x, rfl, x0, x1, hs1, hg1⟩
      have N2 := Lib.hid (srcNext_any p code (k + 1) w1 hs1 hc (by omega))
      have e1 : IntKind.i64.wrap (x * 256) = x * 256 := wrap_i64' _ (by omega) (by omega)
      clear hs hs1
      go_wp2_with fail
      refine N2.out.mono ?_
      rintro e w2 ⟨y, rfl, y0, y1, hs2, hg2⟩
      have e2 : IntKind.i64.wrap (x * 256 + y) = x * 256 + y := wrap_i64' _ (by omega) (by omega)
      go_wp2
      go_ret
      exact ⟨_, rfl, Int.emod_nonneg _ (by omega), Int.lt_of_lt_of_le (Int.emod_lt_of_pos _ (by omega)) (by omega), hs2, grown_trans hg1 hg2⟩
    · go_enter Tryz.func67, Tryz.ntmps67
      go_wp2_with fail
      refine (srcNext_any p code k w hs hc (by omega)).mono ?_
      rintro e w1 ⟨x, rfl, x0, x1, hs1, hg1⟩
      go_wp2
      go_ret
      exact ⟨_, rfl, Int.emod_nonneg _ (by omega), Int.lt_of_lt_of_le (Int.emod_lt_of_pos _ (by omega)) (by omega), hs1.le (by omega), hg1⟩
theorem one_any (p : Nat) (code : List Int) (k : Nat) (w : World) (n : Int) (hs : SrcAt w p code k) (hc : BytesOk code) (hk : k ≤ 900000) (hn : n ≤ 1000000) :
    Calls Tryz.prog 96 #[.pointer (some ⟨p, 0, none⟩), .int .i64 n] w fun e w' => ∃ v : Bool, e = .returned (.bool v) ∧ SrcAt w' p code (k + 2) ∧ w.grownBy w' (some p) := by
  go_enter Tryz.func96, Tryz.ntmps96
  go_wp2_with fail
  refine (pick_any p code k w n hs hc hk hn).mono ?_
  rintro e w1 ⟨x, rfl, x0, x1, hs1, hg1⟩
  obtain ⟨v, hv⟩ : ∃ v, v = (x == 0) := ⟨_, rfl⟩
  go_wp2
  go_ret
  exact ⟨_, rfl, hs1, hg1⟩
end Go.Proofs.YtmeefmoblkiebaaGreat
/- Contracts: a piece that is drawn. -/
namespace Go.Proofs.YtmeefmoblkiebaaGreat
open Go.RowKit
set_option linter.unusedVariables false
set_option linter.unusedSimpArgs false
set_option maxHeartbeats 400000
set_option maxRecDepth 100000
theorem grown_refl (w : World) (row : Option Nat) : w.grownBy w row := ⟨rfl, rfl, rfl, Nat.le_refl _, fun _ _ _ => rfl⟩
theorem grownS_drewN {a w : World} {row : Option Nat} (h : a.grownBy w row) (n : Nat) : a.grownBy (w.drewN n) row := grown_trans h ⟨rfl, rfl, rfl, Nat.le_refl _, fun _ _ _ => rfl⟩
theorem grownS_drew {a w : World} {row : Option Nat} (h : a.grownBy w row) : a.grownBy w.drew row := grown_trans h ⟨rfl, rfl, rfl, Nat.le_refl _, fun _ _ _ => rfl⟩
theorem SrcAt.drewN {w : World} {p : Nat} {code : List Int} {k : Nat} (h : SrcAt w p code k) {n : Nat} : SrcAt (w.drewN n) p code k := h.grown (row := none) ⟨rfl, rfl, rfl, Nat.le_refl _, fun _ _ _ => rfl⟩ (fun g e => by cases e)
theorem SrcAt.drew {w : World} {p : Nat} {code : List Int} {k : Nat} (h : SrcAt w p code k) : SrcAt w.drew p code k := h.grown (row := none) ⟨rfl, rfl, rfl, Nat.le_refl _, fun _ _ _ => rfl⟩ (fun g e => by cases e)
theorem SrcAt.alloc {w : World} {p : Nat} {code : List Int} {k : Nat} (h : SrcAt w p code k) {o : Obj} : SrcAt (w.alloc o) p code k := h.step (Below.alloc (Below.refl w.heap.size w) (Nat.le_refl _) _) h.lt
theorem grownS_alloc {a w : World} {row : Option Nat} (h : a.grownBy w row) (o : Obj) : a.grownBy (w.alloc o) row := grown_trans h (World.grownBy_alloc w o row)
theorem ext_g {w w' : World} {p b : Nat} (h : w.grownBy w' (some p)) (hb : b < w.heap.size) (hp : b ≠ p) : w.grownBy w' (some p) ∧ ∀ o, w'.cell? ⟨b, o, none⟩ = w.cell? ⟨b, o, none⟩ :=
  ⟨h, fun o => World.cell?_of_block (a := ⟨b, o, none⟩) (h.block b hb (fun e => hp (by simpa using e)))⟩
theorem five_cells {w : World} {b : Nat} {v0 v1 v2 v3 v4 : Value} {T : TypeId} (h : w.heap[b]? = some (.cells #[v0, v1, v2, v3, v4] T (0, 0))) :
    w.cell? ⟨b, 0, none⟩ = some v0 ∧ w.cell? ⟨b, 1, none⟩ = some v1 ∧ w.cell? ⟨b, 2, none⟩ = some v2 ∧ w.cell? ⟨b, 3, none⟩ = some v3 ∧ w.cell? ⟨b, 4, none⟩ = some v4 ∧
    w.frozen? ⟨b, 0, none⟩ = false ∧ w.frozen? ⟨b, 1, none⟩ = false ∧ w.frozen? ⟨b, 2, none⟩ = false ∧ w.frozen? ⟨b, 3, none⟩ = false ∧ w.frozen? ⟨b, 4, none⟩ = false := by
  refine ⟨by simp [World.cell?, h], by simp [World.cell?, h], by simp [World.cell?, h], by simp [World.cell?, h], by simp [World.cell?, h], by simp [World.frozen?, h], by simp [World.frozen?, h], by simp [World.frozen?, h], by simp [World.frozen?, h], by simp [World.frozen?, h]⟩
theorem alloc_kept {u w2 : World} {o : Obj} {p : Nat} (h : (u.alloc o).grownBy w2 (some p)) (hp : p < u.heap.size) : w2.heap[u.heap.size]? = some o := by
  rw [h.block u.heap.size (by simp) (fun e => by simp at e; omega)]
  exact heap_alloc_new _ _
theorem grown_new {w w2 w3 : World} {p b : Nat} (h : w.grownBy w2 (some p)) (k : w2.grownBy w3 (some b)) (hb : w.heap.size ≤ b) : w.grownBy w3 (some p) :=
  ⟨k.os.trans h.os, k.tape.trans h.tape, k.output.trans h.output, Nat.le_trans h.size k.size, fun i hi hne => (k.block i (Nat.lt_of_lt_of_le hi h.size) (fun e => by simp at e; omega)).trans (h.block i hi hne)⟩
theorem grown_setNew {a w : World} {p b o : Nat} (h : a.grownBy w (some p)) (hb : a.heap.size ≤ b) (u : Value) : a.grownBy (w.setCell ⟨b, o, none⟩ u) (some p) := grown_new h (grown_set1 w b o u) hb
theorem alloc_keptD {u w2 : World} {o : Obj} {p : Nat} (h : (u.alloc o).drew.grownBy w2 (some p)) (hp : p < u.heap.size) : w2.heap[u.heap.size]? = some o := alloc_kept (grown_trans (grownS_drew (grown_refl (u.alloc o) (some p))) h) hp
theorem gcell {u w : World} {p : Nat} (h : u.grownBy w (some p)) : (∀ b o, b < u.heap.size → p < b → w.cell? ⟨b, o, none⟩ = u.cell? ⟨b, o, none⟩) ∧ (∀ b o, b < u.heap.size → p < b → w.frozen? ⟨b, o, none⟩ = u.frozen? ⟨b, o, none⟩) := by
  have key : ∀ b, b < u.heap.size → p < b → w.heap[b]? = u.heap[b]? := fun b hb hp => h.block b hb (fun e => by simp at e; omega)
  exact ⟨fun b o hb hp => by simp [World.cell?, key b hb hp], fun b o hb hp => by simp [World.frozen?, key b hb hp]⟩
theorem set_block {w : World} {b : Nat} {c : Array Value} {T : TypeId} (h : w.heap[b]? = some (.cells c T (0, 0))) (o : Nat) (u : Value) : (w.setCell ⟨b, o, none⟩ u).heap[b]? = some (.cells (c.setIfInBounds o u) T (0, 0)) := by
  have hlt := lt_of_block h
  have h' : w.heap[b] = .cells c T (0, 0) := by simpa [Array.getElem?_eq_getElem hlt] using h
  show (w.heap.modify b _)[b]? = _
  rw [Array.getElem?_eq_getElem (by simpa using hlt), Array.getElem_modify_self, h']
  rfl
theorem five_set {w : World} {b : Nat} {v0 v1 v2 v3 v4 : Value} {T : TypeId} (h : w.heap[b]? = some (.cells #[v0, v1, v2, v3, v4] T (0, 0))) (u0 u1 u2 u3 u4 : Value) :
    (((((w.setCell ⟨b, 0, none⟩ u0).setCell ⟨b, 1, none⟩ u1).setCell ⟨b, 2, none⟩ u2).setCell ⟨b, 3, none⟩ u3).setCell ⟨b, 4, none⟩ u4).heap[b]? = some (.cells #[u0, u1, u2, u3, u4] T (0, 0)) :=
  set_block (set_block (set_block (set_block (set_block h 0 u0) 1 u1) 2 u2) 3 u3) 4 u4
theorem SrcAt.setNew {w : World} {p b o : Nat} {code : List Int} {k : Nat} (h : SrcAt w p code k) (hb : p < b) (u : Value) : SrcAt (w.setCell ⟨b, o, none⟩ u) p code k := h.grown (row := some b) (grown_set1 w b o u) (fun g e => by cases e; exact hb)
theorem w8b {x m : Int} (h0 : 0 ≤ x) (h1 : x < m) (hm : m ≤ 100) : 0 ≤ IntKind.i8.wrap x ∧ IntKind.i8.wrap x < m := by
  simp [IntKind.wrap, IntKind.bits, IntKind.signed]; omega
theorem fin_piece {W wx : World} {p k b : Nat} {code : List Int} {v0 v1 v4 : Value} {x y : Int} {T : TypeId} (h : wx.heap[b]? = some (.cells #[v0, v1, .int .i8 x, .int .i8 y, v4] T (0, 0))) (hb : W.heap.size ≤ b) (hx : 0 ≤ x ∧ x ≤ 5) (hy : 0 ≤ y ∧ y ≤ 3) (hs : SrcAt wx p code k) (hg : W.grownBy wx (some p)) :
    ∃ (b' : Nat) (x y : Int), Value.pointer (some ⟨b, 0, none⟩) = .pointer (some ⟨b', 0, none⟩) ∧ W.heap.size ≤ b' ∧ wx.heap[b']? = some (.cells #[v0, v1, .int .i8 x, .int .i8 y, v4] T (0, 0)) ∧ (0 ≤ x ∧ x ≤ 5) ∧ (0 ≤ y ∧ y ≤ 3) ∧ SrcAt wx p code k ∧ W.grownBy wx (some p) :=
  ⟨b, x, y, rfl, hb, h, hx, hy, hs, hg⟩
set_option maxHeartbeats 1600000 in
theorem l01PieceDrawn_any (p : Nat) (code : List Int) (k : Nat) (w : World) (c : Ce) (hs : SrcAt w p code k) (hc : BytesOk code) (hk : k ≤ 800000) (hco : c.ok) :
    Calls Tryz.prog 97 #[.pointer (some ⟨p, 0, none⟩), c.val] w fun e w' => ∃ P : Pc, e = .returned P.val ∧ P.x = c.x ∧ P.y = c.y ∧ 0 ≤ P.k ∧ P.k ≤ 5 ∧ 0 ≤ P.t ∧ P.t ≤ 3 ∧ 1 ≤ P.d ∧ P.d ≤ 4 ∧ SrcAt w' p code (k + 8) ∧ w.grownBy w' (some p) := by
  have hlt := hs.lt
  obtain ⟨cx, cy⟩ := c
  obtain ⟨W, hW⟩ : ∃ W, W = (w.alloc (.cells #[.int .i8 cx, .int .i8 cy] 47)).alloc (.cells #[.int .i8 0, .int .i8 0, .int .i8 0, .int .i8 0, .int .i8 0] 49) := ⟨_, rfl⟩
  have hWs : W.heap.size = w.heap.size + 2 := by rw [hW]; simp
  have hpW : p < W.heap.size := by omega
  have hWg : w.grownBy W (some p) := by rw [hW]; exact grownS_alloc (grownS_alloc (grown_refl _ _) _) _
  have hsW : SrcAt W p code k := by rw [hW]; exact hs.step (Below.alloc (Below.alloc (Below.refl w.heap.size w) (Nat.le_refl _) _) (by simp) _) hlt
  have hx0 : W.cell? ⟨w.heap.size, 0, none⟩ = some (.int .i8 cx) := by rw [hW]; simp [go_sem]
  have hx1 : W.cell? ⟨w.heap.size, 1, none⟩ = some (.int .i8 cy) := by rw [hW]; simp [go_sem]
  have hWq : W.heap[w.heap.size + 1]? = some (.cells #[.int .i8 0, .int .i8 0, .int .i8 0, .int .i8 0, .int .i8 0] 49 (0, 0)) := by
    rw [hW]
    have := heap_alloc_new (w.alloc (.cells #[.int .i8 cx, .int .i8 cy] 47)) (.cells #[.int .i8 0, .int .i8 0, .int .i8 0, .int .i8 0, .int .i8 0] 49)
    simpa using this
  have HP := Lib.hid (fun w' j (h : SrcAt w' p code j) (hj : j ≤ 900000) (n : Int) (hn : n ≤ 1000000) => pick_any p code j w' n h hc hj hn)
  go_enter Tryz.func97, Tryz.ntmps97
  go_wp2_with fail
  rw [← hW]
  clear hW
  have hWl : w.heap.size + 1 < W.heap.size := by omega
  have HWq := Lib.hid hWq
  clear hWs hWq
  go_cut [5] from 6 to 13 (fun s5 wx => ∃ (b : Nat) (x y : Int), s5 = .pointer (some ⟨b, 0, none⟩) ∧ W.heap.size ≤ b ∧ wx.heap[b]? = some (.cells #[.int .i8 cx, .int .i8 cy, .int .i8 x, .int .i8 y, .int .i8 1] 49 (0, 0)) ∧ (0 ≤ x ∧ x ≤ 5) ∧ (0 ≤ y ∧ y ≤ 3) ∧ SrcAt wx p code (k + 4) ∧ W.grownBy wx (some p))
  case first =>
    go_region_held3 (fun w' => W.grownBy w' (some p) ∧ ∀ o, w'.cell? ⟨w.heap.size, o, none⟩ = W.cell? ⟨w.heap.size, o, none⟩) ((refine ext_g ?_ (by omega) (by omega); exact (by repeat (first | with_reducible exact grown_refl _ _ | with_reducible assumption | with_reducible apply grownS_drewN | with_reducible apply grownS_drew | with_reducible apply grownS_alloc | (with_reducible refine grown_setNew ?_ (by first | omega | (simp; omega)) _) | with_reducible refine grown_trans ?_ (by with_reducible assumption))))) (first | (go_at_call 67; with_reducible (show Calls _ _ _ (World.alloc _ _) _); refine (HP.out _ _ (by repeat (first | with_reducible assumption | with_reducible apply SrcAt.drewN | with_reducible apply SrcAt.drew | with_reducible apply SrcAt.alloc | (with_reducible refine SrcAt.setNew ?_ (by omega) _))) (by omega) _ (by omega)).mono ?_; rintro e w1 ⟨x, rfl, x0, x1, hs1, hg1⟩; have hp1 := hs1.lt; have hwx := w8b x0 x1 (by omega); have hbk := Lib.hid (alloc_kept hg1 (by omega)); obtain ⟨y0, y1, y2, y3, y4, z0, z1, z2, z3, z4⟩ := five_cells hbk.out) | (go_at_call 67; with_reducible (show Calls _ _ _ (World.drew (World.alloc _ _)) _); refine (HP.out _ _ (by repeat (first | with_reducible assumption | with_reducible apply SrcAt.drewN | with_reducible apply SrcAt.drew | with_reducible apply SrcAt.alloc | (with_reducible refine SrcAt.setNew ?_ (by omega) _))) (by omega) _ (by omega)).mono ?_; rintro e w1 ⟨x, rfl, x0, x1, hs1, hg1⟩; have hp1 := hs1.lt; have hwx := w8b x0 x1 (by omega); have hbk := Lib.hid (alloc_keptD hg1 (by omega)); obtain ⟨y0, y1, y2, y3, y4, z0, z1, z2, z3, z4⟩ := five_cells hbk.out; have hz1 := hg1.size; (try simp [Nat.succ_le_iff] at hz1)) | (go_at_call 67; refine (HP.out _ _ (by repeat (first | with_reducible assumption | with_reducible apply SrcAt.drewN | with_reducible apply SrcAt.drew | with_reducible apply SrcAt.alloc | (with_reducible refine SrcAt.setNew ?_ (by omega) _))) (by omega) _ (by omega)).mono ?_; rintro e w1 ⟨x, rfl, x0, x1, hs1, hg1⟩; have hp1 := hs1.lt; have hwx := w8b x0 x1 (by omega); have hz1 := hg1.size; (try simp [Nat.succ_le_iff] at hz1); obtain ⟨hc1, hf1⟩ := gcell hg1))
    all_goals
      go_wp2_with fail
      go_meet
      with_reducible apply fin_piece
      · first | with_reducible exact heap_alloc_new _ _ | with_reducible exact five_set hbk.out _ _ _ _ _ | exact five_set ((hg1.block W.heap.size (by omega) (fun e => by simp at e; omega)).trans hbk.out) _ _ _ _ _
      · omega
      · omega
      · omega
      · exact (by repeat (first | with_reducible assumption | with_reducible apply SrcAt.drewN | with_reducible apply SrcAt.drew | with_reducible apply SrcAt.alloc | (with_reducible refine SrcAt.setNew ?_ (by omega) _)))
      · exact (by repeat (first | with_reducible exact grown_refl _ _ | with_reducible assumption | with_reducible apply grownS_drewN | with_reducible apply grownS_drew | with_reducible apply grownS_alloc | (with_reducible refine grown_setNew ?_ (by first | omega | (simp; omega)) _) | with_reducible refine grown_trans ?_ (by with_reducible assumption)))
  case rest =>
    obtain ⟨b, x, y, rfl, hb, hblk, hx, hy, hs4, hg4⟩ := hcut
    go_wp2_with fail
    refine (one_any p code (k + 4) wc 3 hs4 hc (by omega) (by omega)).mono ?_
    rintro e w2 ⟨v, rfl, hs6, hg6⟩
    have hg2 := grown_trans hg4 hg6
    have hb2 := (hg6.block b (lt_of_block hblk) (fun e => by simp at e; omega)).trans hblk
    have hq2 := (hg2.block (w.heap.size + 1) hWl (fun e => by simp at e; omega)).trans HWq.out
    have hbne : b ≠ w.heap.size + 1 := by omega
    clear hblk hg6 hs4 HP hx0 hx1
    have hwp : p < w.heap.size + 1 := by omega
    cases v with
    | true =>
      go_wp2_with fail
      refine (pick_any p code (k + 6) w2 4 hs6 hc (by omega) (by omega)).mono ?_
      rintro e w3 ⟨u, rfl, u0, u1, hs8, hg8⟩
      have u2 : u ≤ 3 := by omega
      have e1 : IntKind.i64.wrap (1 + u) = 1 + u := wrap_i64' _ (by omega) (by omega)
      have e2 : IntKind.i8.wrap (1 + u) = 1 + u := by simp [IntKind.wrap, IntKind.bits, IntKind.signed]; omega
      have hb3 := (hg8.block b (lt_of_block hb2) (fun e => by simp at e; omega)).trans hb2
      have hq3 := (hg8.block (w.heap.size + 1) (lt_of_block hq2) (fun e => by simp at e; omega)).trans hq2
      have hb4 : (w3.setCell ⟨b, 4, none⟩ (.int .i8 (1 + u))).heap[b]? = _ := set_block hb3 4 _
      have hq4 : (w3.setCell ⟨b, 4, none⟩ (.int .i8 (1 + u))).heap[w.heap.size + 1]? = _ := (heap_setCell_other w3 ⟨b, 4, none⟩ (w.heap.size + 1) (.int .i8 (1 + u)) (fun e => hbne (by simp at e; omega))).trans hq3
      have HB4 := Lib.hid hb4
      have HQ4 := Lib.hid hq4
      obtain ⟨a0, a1, a2, a3, a4, f0, f1, f2, f3, f4⟩ := five_cells hb3
      obtain ⟨c0, c1, c2, c3, c4, d0, d1, d2, d3, d4⟩ := five_cells hq3
      have hg9 : w.grownBy (w3.setCell ⟨b, 4, none⟩ (.int .i8 (1 + u))) (some p) := by
        have hgA := grown_trans hWg (grown_trans hg2 hg8)
        exact grown_setNew hgA (by omega) _
      have hs9 : SrcAt (w3.setCell ⟨b, 4, none⟩ (.int .i8 (1 + u))) p code (k + 8) := by
        have := hs8.lt
        exact SrcAt.setNew hs8 (by omega) _
      clear hb3 hq3 hb4 hq4 hb2 hq2 hg8 hs8 hg2 hs6 hg4 hWg
      go_wp2
      have hh := five_set HQ4.out (.int .i8 cx) (.int .i8 cy) (.int .i8 x) (.int .i8 y) (.int .i8 (1 + u))
      refine bodyPost_ret (v := .agg #[.int .i8 cx, .int .i8 cy, .int .i8 x, .int .i8 y, .int .i8 (1 + u)]) (results_cell_row Tryz.results97 _ _ (w.heap.size + 1) 49 _ (0, 0) _ rfl hh Tryz.underlying49 rfl (by kernel_rfl)) rfl ⟨⟨cx, cy, x, y, 1 + u⟩, rfl, rfl, rfl, hx.1, hx.2, hy.1, hy.2, by show 1 ≤ 1 + u; omega, by show 1 + u ≤ 4; omega, ?_, ?_⟩
      · exact (by repeat (first | with_reducible assumption | with_reducible apply SrcAt.drewN | with_reducible apply SrcAt.drew | with_reducible apply SrcAt.alloc | (with_reducible refine SrcAt.setNew ?_ (by omega) _)))
      · exact (by repeat (first | with_reducible exact grown_refl _ _ | with_reducible assumption | with_reducible apply grownS_drewN | with_reducible apply grownS_drew | with_reducible apply grownS_alloc | (with_reducible refine grown_setNew ?_ (by first | omega | (simp; omega)) _) | with_reducible refine grown_trans ?_ (by with_reducible assumption)))
    | false =>
      obtain ⟨a0, a1, a2, a3, a4, f0, f1, f2, f3, f4⟩ := five_cells hb2
      obtain ⟨c0, c1, c2, c3, c4, d0, d1, d2, d3, d4⟩ := five_cells hq2
      go_wp2
      have hh := five_set hq2 (.int .i8 cx) (.int .i8 cy) (.int .i8 x) (.int .i8 y) (.int .i8 1)
      refine bodyPost_ret (v := .agg #[.int .i8 cx, .int .i8 cy, .int .i8 x, .int .i8 y, .int .i8 1]) (results_cell_row Tryz.results97 _ _ (w.heap.size + 1) 49 _ (0, 0) _ rfl hh Tryz.underlying49 rfl (by kernel_rfl)) rfl ⟨⟨cx, cy, x, y, 1⟩, rfl, rfl, rfl, hx.1, hx.2, hy.1, hy.2, by show (1 : Int) ≤ 1; omega, by show (1 : Int) ≤ 4; omega, ?_, ?_⟩
      · have hs8 := hs6.le (show k + 6 ≤ k + 8 by omega)
        exact (by repeat (first | with_reducible assumption | with_reducible apply SrcAt.drewN | with_reducible apply SrcAt.drew | with_reducible apply SrcAt.alloc | (with_reducible refine SrcAt.setNew ?_ (by omega) _)))
      · have hgA := grown_trans hWg hg2
        exact (by repeat (first | with_reducible exact grown_refl _ _ | with_reducible assumption | with_reducible apply grownS_drewN | with_reducible apply grownS_drew | with_reducible apply grownS_alloc | (with_reducible refine grown_setNew ?_ (by first | omega | (simp; omega)) _) | with_reducible refine grown_trans ?_ (by with_reducible assumption)))
end Go.Proofs.YtmeefmoblkiebaaGreat
/- Boards that are drawn row by row: plain law. -/
namespace Go.Proofs.YtmeefmoblkiebaaGreat
open Go.RowKit
set_option linter.unusedVariables false
set_option linter.unusedSimpArgs false
set_option maxHeartbeats 400000
set_option maxRecDepth 100000
structure DrI (wd hg y x : Int) (ps : List Pc) : Prop where
  ok : ∀ k (h : k < ps.length), ps[k].ok
  v : ps.all (fun p => vPc p && cIn wd hg p.at_) = true
  nd : (ps.map Pc.at_).Nodup
  lt : ∀ c ∈ ps.map Pc.at_, c.y < y ∨ (c.y = y ∧ c.x < x)
  len : (ps.length : Int) ≤ 6 * y + x
theorem DrI.nil (wd hg : Int) : DrI wd hg 0 0 [] := ⟨fun k h => absurd h (by simp), rfl, by simp, by simp, by simp⟩
theorem DrI.skip {wd hg y x : Int} {ps : List Pc} (h : DrI wd hg y x ps) : DrI wd hg y (x + 1) ps :=
  ⟨h.ok, h.v, h.nd, fun c hc => by have := h.lt c hc; omega, by have := h.len; omega⟩
theorem DrI.row {wd hg y x : Int} {ps : List Pc} (h : DrI wd hg y x ps) (hx : x ≤ 6) : DrI wd hg (y + 1) 0 ps :=
  ⟨h.ok, h.v, h.nd, fun c hc => by have := h.lt c hc; omega, by have := h.len; omega⟩
theorem DrI.push {wd hg y x : Int} {ps : List Pc} (h : DrI wd hg y x ps) (p : Pc) (ho : p.ok) (hv : vPc p = true) (hx : p.x = x) (hy : p.y = y) (h0 : 0 ≤ x) (h1 : x < wd) (h2 : 0 ≤ y) (h3 : y < hg) : DrI wd hg y (x + 1) (ps ++ [p]) := by
  refine ⟨?_, ?_, ?_, ?_, ?_⟩
  · intro k hk
    rw [List.getElem_append]
    split
    · exact h.ok k _
    · simpa using ho
  · rw [List.all_append, h.v]
    simp only [List.all_cons, List.all_nil, Bool.and_true, Bool.true_and, hv]
    simp only [cIn, inB, Pc.at_, hx, hy, Bool.and_eq_true, decide_eq_true_eq]
    omega
  · rw [List.map_append, List.nodup_append]
    refine ⟨h.nd, by simp, ?_⟩
    intro a ha b hb
    simp only [List.map_cons, List.map_nil, List.mem_singleton] at hb
    have := h.lt a ha
    intro hab
    rw [hab, hb] at this
    have e1 : p.at_.x = x := hx
    have e2 : p.at_.y = y := hy
    omega
  · intro c hc
    rw [List.map_append, List.mem_append] at hc
    rcases hc with hc | hc
    · have := h.lt c hc; omega
    · simp only [List.map_cons, List.map_nil, List.mem_singleton] at hc
      have e1 : p.at_.x = x := hx
      have e2 : p.at_.y = y := hy
      rw [hc]
      omega
  · rw [List.length_append]
    have := h.len
    simp only [List.length_cons, List.length_nil]
    omega
theorem DrI.vBd {wd hg y x : Int} {ps : List Pc} (h : DrI wd hg y x ps) (hw : 1 ≤ wd ∧ wd ≤ 24) (hh : 1 ≤ hg ∧ hg ≤ 24) (hy : 6 * y + x ≤ 200) : vBd ⟨wd, hg, ps⟩ = true := by
  have := h.len
  simp only [Go.Proofs.YtmeefmoblkiebaaGreat.vBd, inB, Bool.and_eq_true, decide_eq_true_eq]
  refine ⟨⟨⟨⟨by omega, by omega⟩, by omega⟩, h.v⟩, h.nd⟩
end Go.Proofs.YtmeefmoblkiebaaGreat
/- Contracts: a board that is drawn. -/
namespace Go.Proofs.YtmeefmoblkiebaaGreat
open Go.RowKit
set_option linter.unusedVariables false
set_option linter.unusedSimpArgs false
set_option maxHeartbeats 400000
set_option maxRecDepth 100000
theorem sl_newD (w : World) (cs : Array Value) (T : TypeId) (g : Nat) (hg : g = w.heap.size) : SlAt (g + 1) (w.alloc (.cells cs T)) (some ⟨g, 0, none⟩) cs.toList := by
  subst hg
  exact sl_new w cs T
theorem three_blk {w : World} {b : Nat} {x y z u : Value} {T : TypeId} (h : w.heap[b]? = some (.cells #[x, y, z] T (0, 0))) : (w.setCell ⟨b, 2, none⟩ u).heap[b]? = some (.cells #[x, y, u] T (0, 0)) := three_set2 h
theorem blk_kept {w w' : World} {b : Nat} {o : Obj} {row : Option Nat} (h : w.heap[b]? = some o) (hg : w.grownBy w' row) (hne : row ≠ some b) : w'.heap[b]? = some o := by
  rw [hg.block b (lt_of_block h) (fun e => hne e.symm)]
  exact h
theorem drawn_pc (P : Pc) {c : Ce} (h0 : (0 ≤ c.x ∧ c.x ≤ 23) ∧ 0 ≤ c.y ∧ c.y ≤ 23) (hx : P.x = c.x) (hy : P.y = c.y) (k0 : 0 ≤ P.k) (k1 : P.k ≤ 5) (t0 : 0 ≤ P.t) (t1 : P.t ≤ 3) (d0 : 1 ≤ P.d) (d1 : P.d ≤ 4) : P.ok ∧ vPc P = true := by
  obtain ⟨x, y, k, t, d⟩ := P
  simp only at *
  subst hx
  subst hy
  refine ⟨⟨⟨⟨by show -128 ≤ c.x; omega, by show c.x ≤ 127; omega⟩, ⟨by show -128 ≤ c.y; omega, by show c.y ≤ 127; omega⟩⟩, ⟨by show -128 ≤ k; omega, by show k ≤ 127; omega⟩, ⟨by show -128 ≤ t; omega, by show t ≤ 127; omega⟩, ⟨by show -128 ≤ d; omega, by show d ≤ 127; omega⟩⟩, ?_⟩
  simp [vPc, inB]
  omega
theorem infoPcD : (Tryz.prog.info? 49).map (fun i => (i.zero, i.size, i.bytes)) = some (some (.agg #[.int .i8 0, .int .i8 0, .int .i8 0, .int .i8 0, .int .i8 0]), 5, 5) := by kernel_rfl
/-- The board while it is drawn. -/
structure DrS (w wr : World) (p b wd hg : Nat) (code : List Int) (k : Nat) (v : Value) (ps : List Pc) : Prop where
  blk : wr.heap[b]? = some (.cells #[.int .i8 wd, .int .i8 hg, v] 27 (0, 0))
  own : wr.ownsRow (b + 1) 49 5 v ps.length (flat Pc.cells ps)
  src : SrcAt wr p code k
  grown : w.grownBy wr (some p)
theorem DrS.le {w wr : World} {p b wd hg : Nat} {code : List Int} {k k' : Nat} {v : Value} {ps : List Pc} (h : DrS w wr p b wd hg code k v ps) (hk : k ≤ k') : DrS w wr p b wd hg code k' v ps := ⟨h.blk, h.own, h.src.le hk, h.grown⟩
/-- A callee that draws. -/
theorem DrS.draw {w wr w' : World} {p b wd hg : Nat} {code : List Int} {k k' : Nat} {v : Value} {ps : List Pc} (h : DrS w wr p b wd hg code k v ps) (hs : SrcAt w' p code k') (hg' : wr.grownBy w' (some p)) (hp : p < b) : DrS w w' p b wd hg code k' v ps :=
  ⟨blk_kept h.blk hg' (fun e => by simp at e; omega), own_kept h.own hg' (fun q hq => by have := (h.own.lt q hq).1; intro e; simp at e; omega), hs, grown_trans h.grown hg'⟩
theorem DrS.alloc {w wr : World} {p b wd hg : Nat} {code : List Int} {k : Nat} {v : Value} {ps : List Pc} (h : DrS w wr p b wd hg code k v ps) (o : Obj) : DrS w (wr.alloc o) p b wd hg code k v ps :=
  ⟨blk_kept (row := none) h.blk (World.grownBy_alloc wr o none) (by simp), own_kept (row := none) h.own (World.grownBy_alloc wr o none) (fun q hq => by simp), h.src.alloc, grownS_alloc h.grown o⟩
theorem DrS.set {w wr : World} {p b wd hg q o : Nat} {code : List Int} {k : Nat} {v : Value} {ps : List Pc} (h : DrS w wr p b wd hg code k v ps) (hp : p < b) (hw : w.heap.size ≤ q) (hb : b < q) (hv : ∀ g, v.ownBlock = some g → g ≠ q) (u : Value) : DrS w (wr.setCell ⟨q, o, none⟩ u) p b wd hg code k v ps :=
  ⟨blk_kept h.blk (grown_set1 wr q o u) (fun e => by simp at e; omega), own_kept h.own (grown_set1 wr q o u) (fun g hg e => hv g hg (by simpa using e)), h.src.setNew (by omega) u, grown_setNew h.grown hw u⟩
theorem DrS.own_lt {w wr : World} {p b wd hg : Nat} {code : List Int} {k : Nat} {v : Value} {ps : List Pc} (h : DrS w wr p b wd hg code k v ps) : ∀ g, v.ownBlock = some g → g ≠ wr.heap.size := fun g hg e => by have := (h.own.lt g hg).2; omega
/-- The piece is put behind the row. -/
theorem DrS.push {w wr w6 : World} {p b wd hg : Nat} {code : List Int} {k : Nat} {v v' : Value} {ps : List Pc} {P : Pc} {o : Obj} (h : DrS w wr p b wd hg code k v ps) (hp : p < b) (hb : w.heap.size ≤ b) (hgrow : (wr.alloc o).grownBy w6 v.ownBlock) (hown : w6.ownsRow (b + 1) 49 5 v' (ps.length + 1) (flat Pc.cells ps ++ P.cells)) :
    DrS w (w6.setCell ⟨b, 2, none⟩ v') p b wd hg code k v' (ps ++ [P]) := by
  have hv : ∀ q, v.ownBlock = some q → b + 1 ≤ q := fun q hq => (h.own.lt q hq).1
  have h1 := h.alloc o
  have hb6 : w6.heap[b]? = _ := blk_kept h1.blk hgrow (fun e => by have := hv b e; omega)
  have hs6 : SrcAt w6 p code k := h1.src.grown hgrow (fun g e => by have := hv g e; omega)
  have hg6 : w.grownBy w6 (some p) := by
    cases hvb : v.ownBlock with
    | none => rw [hvb] at hgrow; exact grown_trans h1.grown ⟨hgrow.os, hgrow.tape, hgrow.output, hgrow.size, fun i hi _ => hgrow.block i hi (by simp)⟩
    | some q => rw [hvb] at hgrow; exact grown_new h1.grown hgrow (by have := hv q hvb; omega)
  have e : flat Pc.cells ps ++ P.cells = flat Pc.cells (ps ++ [P]) := by rw [flat_append]; simp [flat]
  rw [e] at hown
  refine ⟨three_set2 hb6, ?_, hs6.setNew hp v', grown_setNew hg6 hb v'⟩
  rw [List.length_append]
  exact own_kept hown (grown_set1 w6 b 2 v') (fun q hq e => by have := (hown.lt q hq).1; simp at e; omega)
theorem DrS.push_blk {w wr w6 : World} {p b wd hg : Nat} {code : List Int} {k : Nat} {v : Value} {ps : List Pc} {o : Obj} (h : DrS w wr p b wd hg code k v ps) (hgrow : (wr.alloc o).grownBy w6 v.ownBlock) :
    w6.heap[b]? = some (.cells #[.int .i8 wd, .int .i8 hg, v] 27 (0, 0)) :=
  blk_kept (h.alloc o).blk hgrow (fun e => by have := (h.own.lt b e).1; omega)
set_option maxHeartbeats 1600000 in
theorem l01Drawn_any (p : Nat) (code : List Int) (k : Nat) (w : World) (hs : SrcAt w p code k) (hc : BytesOk code) (hk : k ≤ 700000) :
    Calls Tryz.prog 41 #[.pointer (some ⟨p, 0, none⟩)] w fun e w' => ∃ (wd hg : Int) (v : Value), e = .returned (bdv wd hg v) ∧ ∃ (ps : List Pc), vBd ⟨wd, hg, ps⟩ = true ∧ (Bd.mk wd hg ps).ok ∧ ps.length ≤ 24 ∧ w'.ownsRow w.heap.size 49 5 v ps.length (flat Pc.cells ps) ∧ SrcAt w' p code (k + 1000) ∧ w.grownBy w' (some p) := by
  have hlt := hs.lt
  obtain ⟨i0, hi, hz0, hz1, hz2⟩ := info_parts infoPcD
  obtain ⟨W, hW⟩ : ∃ W, W = w.alloc (.cells #[.int .i8 0, .int .i8 0, .slice none 0 0] 27) := ⟨_, rfl⟩
  have hWs : w.heap.size < W.heap.size := by rw [hW]; simp
  have hWg : w.grownBy W (some p) := by rw [hW]; exact grownS_alloc (grown_refl _ _) _
  have hsW : SrcAt W p code k := by rw [hW]; exact hs.alloc
  have hWq : W.heap[w.heap.size]? = some (.cells #[.int .i8 0, .int .i8 0, .slice none 0 0] 27 (0, 0)) := by rw [hW]; exact heap_alloc_new _ _
  have HP := Lib.hid (fun w' j (h : SrcAt w' p code j) (hj : j ≤ 900000) (n : Int) (hn : n ≤ 1000000) => pick_any p code j w' n h hc hj hn)
  have HO := Lib.hid (fun w' j (h : SrcAt w' p code j) (hj : j ≤ 900000) (n : Int) (hn : n ≤ 1000000) => one_any p code j w' n h hc hj hn)
  have HD := Lib.hid (fun w' j (h : SrcAt w' p code j) (hj : j ≤ 800000) c (hco : Ce.ok c) => l01PieceDrawn_any p code j w' c h hc hj hco)
  have HWq := Lib.hid hWq
  have HWg := Lib.hid hWg
  go_enter Tryz.func41, Tryz.ntmps41
  go_wp2_with fail
  rw [← hW]
  clear hW hWq hWg
  refine (HP.out _ _ hsW (by omega) _ (by omega)).mono ?_
  rintro e w1 ⟨x, rfl, x0, x1, hs1, hg1⟩
  obtain ⟨wd, hwd, hwd1⟩ : ∃ wd : Nat, IntKind.i64.wrap (2 + x) = (wd : Int) ∧ 2 ≤ wd ∧ wd ≤ 6 := by
    have : IntKind.i64.wrap (2 + x) = 2 + x := wrap_i64' _ (by omega) (by omega)
    exact ⟨(2 + x).toNat, by omega, by omega, by omega⟩
  have hwd8 : IntKind.i8.wrap (wd : Int) = wd := by simp [IntKind.wrap, IntKind.bits, IntKind.signed]; omega
  go_wp2_with fail
  refine (HP.out _ _ hs1 (by omega) _ (by omega)).mono ?_
  rintro e w2 ⟨y, rfl, y0, y1, hs2, hg2⟩
  obtain ⟨hg, hhg, hhg1⟩ : ∃ hg : Nat, IntKind.i64.wrap (1 + y) = (hg : Int) ∧ 1 ≤ hg ∧ hg ≤ 4 := by
    have : IntKind.i64.wrap (1 + y) = 1 + y := wrap_i64' _ (by omega) (by omega)
    exact ⟨(1 + y).toNat, by omega, by omega, by omega⟩
  have hhg8 : IntKind.i8.wrap (hg : Int) = hg := by simp [IntKind.wrap, IntKind.bits, IntKind.signed]; omega
  have hg02 := grown_trans hg1 hg2
  have hz2 := hg02.size
  obtain ⟨b, hb⟩ : ∃ b, b = w2.heap.size := ⟨_, rfl⟩
  have DS : Hid (DrS W (w2.alloc (.cells #[.int .i8 wd, .int .i8 hg, .slice none 0 0] 27)) p b wd hg code (k + 4) (.slice none 0 0) []) := by
    subst hb
    refine Lib.hid ⟨heap_alloc_new _ _, World.ownsRow_nil _ _ _ _, hs2.alloc, grownS_alloc hg02 _⟩
  have hp : p < b := by have := hs2.lt; omega
  go_wp2_with fail
  rw [← hb]
  clear hwd hhg hwd8 hhg8 hs1 hs2 hg1 hg2 hg02 x0 x1 y0 y1
  have hWb : W.heap.size ≤ b := by omega
  go_loopw [4] (fun i wr => ∃ (n : Nat) (v : Value) (ps : List Pc), n ≤ hg ∧ i = .int .i8 (n : Int) ∧ DrI wd hg n 0 ps ∧ DrS W wr p b wd hg code (k + 4 + n * 90) v ps) (fun i _ => hg - (intOf i).toNat)
  case atStart => exact ⟨0, _, [], by omega, rfl, DrI.nil _ _, DS.out⟩
  case round =>
    clear DS hb hz2
    obtain ⟨n, v, ps, hn, rfl, hI, hS⟩ := hrel
    obtain ⟨W1, hW1⟩ : ∃ W1, W1 = wr := ⟨_, rfl⟩
    subst hW1
    obtain ⟨c0, c1, c2, cf⟩ := three_cells hS.blk
    by_cases hlt1 : (n : Int) < hg
    · have HI := Lib.hid hI
      have HS := Lib.hid hS
      clear hI hS
      go_wp2_with fail
      go_loopw [5] (fun i wr => ∃ (m : Nat) (v : Value) (ps : List Pc), m ≤ wd ∧ i = .int .i8 (m : Int) ∧ DrI wd hg n m ps ∧ DrS W wr p b wd hg code (k + 4 + n * 90 + m * 14) v ps) (fun i _ => wd - (intOf i).toNat)
      case atStart => exact ⟨0, _, _, by omega, rfl, HI.out, HS.out⟩
      case round =>
        clear c0 c1 c2 cf HI HS
        obtain ⟨m, v, ps, hm, rfl, hI, hS⟩ := hrel
        obtain ⟨c0, c1, c2, cf⟩ := three_cells hS.blk
        have HI := Lib.hid hI
        have HS := Lib.hid hS
        have hs := hS.src
        clear hI hS
        by_cases hlt2 : (m : Int) < wd
        · go_wp2_with fail
          refine (HO.out _ _ hs (by omega) _ (by omega)).mono ?_
          rintro e w3 ⟨v1, rfl, hs3, hg3⟩
          have HS3 := Lib.hid (HS.out.draw hs3 hg3 hp)
          clear hg3 c0 c1 c2 cf hs
          cases v1 with
          | true =>
            go_wp2_with fail
            go_roundw
            case rel => exact ⟨m + 1, v, ps, by omega, by go_num, by rw [show ((m + 1 : Nat) : Int) = (m : Int) + 1 by omega]; exact HI.out.skip, HS3.out.le (by omega)⟩
            case measure => simp [intOf]; omega
          | false =>
            go_wp2_with fail
            refine (HD.out _ _ hs3 (by omega) ⟨m, n⟩ ⟨⟨by show (-128 : Int) ≤ m; omega, by show (m : Int) ≤ 127; omega⟩, ⟨by show (-128 : Int) ≤ n; omega, by show (n : Int) ≤ 127; omega⟩⟩).mono ?_
            rintro e w4 ⟨⟨px, py, pk, pt, pd⟩, rfl, hPx, hPy, k0, k1, t0, t1, d0, d1, hs4, hg4⟩
            simp only at hPx hPy k0 k1 t0 t1 d0 d1
            subst hPx
            subst hPy
            have HS4 := Lib.hid (HS3.out.draw hs4 hg4 hp)
            have hqb : b < w4.heap.size := lt_of_block HS4.out.blk
            have hqv := HS4.out.own_lt
            obtain ⟨q, hq⟩ : ∃ q, q = w4.heap.size := ⟨_, rfl⟩
            obtain ⟨w5, hw5⟩ : ∃ w5, w5 = w4.alloc (.cells #[.int .i8 m, .int .i8 n, .int .i8 pk, .int .i8 pt, .int .i8 pd] 49) := ⟨_, rfl⟩
            have HS5 := Lib.hid (HS4.out.alloc (.cells #[.int .i8 m, .int .i8 n, .int .i8 pk, .int .i8 pt, .int .i8 pd] 49))
            have hq5 : w5.heap[q]? = some (.cells #[.int .i8 m, .int .i8 n, .int .i8 pk, .int .i8 pt, .int .i8 pd] 49 (0, 0)) := by rw [hw5, hq]; exact heap_alloc_new _ _
            rw [← hw5] at HS5
            rw [← hq] at hqv hqb
            have HQV := Lib.hid hqv
            have HQ5 := Lib.hid hq5
            clear hqv hs4 hg4 hs3 HS3 HS4 hq5
            go_wp2_with fail
            rw [← hw5, ← hq]
            clear hw5 hq
            have hs5 := HS5.out.src
            refine (HO.out _ _ hs5 (by omega) _ (by omega)).mono ?_
            rintro e w6 ⟨v2, rfl, hs6, hg6⟩
            have HS6 := Lib.hid (HS5.out.draw hs6 hg6 hp)
            have hq6 := blk_kept HQ5.out hg6 (by simp; omega)
            clear hg6 hs5 HS5 HQ5
            have hWq : W.heap.size ≤ q := by omega
            cases v2 with
            | true =>
              obtain ⟨a0, a1, a2, a3, a4, f0, f1, f2, f3, f4⟩ := five_cells hq6
              have HS7 := Lib.hid (HS6.out.set (o := 2) hp hWq hqb HQV.out (.int .i8 0))
              have hq7 : (w6.setCell ⟨q, 2, none⟩ (.int .i8 0)).heap[q]? = some (.cells #[.int .i8 m, .int .i8 n, .int .i8 0, .int .i8 pt, .int .i8 pd] 49 (0, 0)) := set_block hq6 2 (.int .i8 0)
              have HQ7 := Lib.hid hq7
              clear hq7 hq6
              go_wp2_with fail
              have hs7 := HS7.out.src
              refine (HP.out _ _ hs7 (by omega) _ (by omega)).mono ?_
              rintro e w8 ⟨t, rfl, tt0, tt1, hs8, hg8⟩
              have et : IntKind.i8.wrap t = t := by simp [IntKind.wrap, IntKind.bits, IntKind.signed]; omega
              have HS8 := Lib.hid (HS7.out.draw hs8 hg8 hp)
              have hq8 := blk_kept HQ7.out hg8 (by simp; omega)
              clear a0 a1 a2 a3 a4 f0 f1 f2 f3 f4 hs6 hs7 hg8 HS7 HQ7
              obtain ⟨a0, a1, a2, a3, a4, f0, f1, f2, f3, f4⟩ := five_cells hq8
              obtain ⟨c0, c1, c2, cf⟩ := three_cells HS8.out.blk
              have HS9 := Lib.hid (HS8.out.set (o := 3) hp hWq hqb HQV.out (.int .i8 t))
              have HOK := Lib.hid (drawn_pc ⟨m, n, 0, t, pd⟩ (c := ⟨m, n⟩) (by show (0 ≤ (m : Int) ∧ (m : Int) ≤ 23) ∧ 0 ≤ (n : Int) ∧ (n : Int) ≤ 23; omega) rfl rfl (by show (0 : Int) ≤ 0; omega) (by show (0 : Int) ≤ 5; omega) (by show 0 ≤ t; omega) (by show t ≤ 3; omega) d0 d1)
              have hzq := lt_of_block hq8
              clear hq8 hs8 HS8
              have hn24 : ps.length ≤ 24 := by have := HI.out.len; omega
              have HOWN := Lib.hid HS9.out.own
              go_wp2_with (at_builtin; go_must (refine wpList_append_sl _ rfl _ _ 25 rfl (b + 1) 49 i0 (.agg #[.int .i8 0, .int .i8 0, .int .i8 0, .int .i8 0, .int .i8 0]) 5 5 Tryz.underlying25 hi hz0 hz1 hz2 rfl (by decide) _ _ _ rfl (own_below HOWN.out (bl_alloc (Below.refl _ _)) (Nat.le_refl _)) (some ⟨_, 0, none⟩) 1 1 [.int .i8 m, .int .i8 n, .int .i8 0, .int .i8 t, .int .i8 pd] rfl (sl_newD _ #[.int .i8 m, .int .i8 n, .int .i8 0, .int .i8 t, .int .i8 pd] _ _ (by simp)) rfl (Pc.one (⟨m, n, 0, t, pd⟩ : Pc)) (by unfold maxLen; omega) (by omega) (by simp; omega) ?_); intro v3 wz hown3 hgrow; have hbk := HS9.out.push_blk hgrow; obtain ⟨e0, e1, e2, ef⟩ := three_cells hbk; obtain ⟨a3, cap3, rfl, -⟩ := own_at hown3)
              go_roundw
              case rel => exact ⟨m + 1, _, ps ++ [(⟨m, n, 0, t, pd⟩ : Pc)], by omega, by go_num, by rw [show ((m + 1 : Nat) : Int) = (m : Int) + 1 by omega]; exact HI.out.push (⟨m, n, 0, t, pd⟩ : Pc) HOK.out.1 HOK.out.2 rfl rfl (by omega) hlt2 (by omega) hlt1, (HS9.out.push (P := (⟨m, n, 0, t, pd⟩ : Pc)) hp hWb hgrow hown3).le (by omega)⟩
              case measure => simp [intOf]; omega
            | false =>
              obtain ⟨a0, a1, a2, a3, a4, f0, f1, f2, f3, f4⟩ := five_cells hq6
              obtain ⟨c0, c1, c2, cf⟩ := three_cells HS6.out.blk
              have HS9 := HS6
              have HOK := Lib.hid (drawn_pc ⟨m, n, pk, pt, pd⟩ (c := ⟨m, n⟩) (by show (0 ≤ (m : Int) ∧ (m : Int) ≤ 23) ∧ 0 ≤ (n : Int) ∧ (n : Int) ≤ 23; omega) rfl rfl k0 k1 t0 t1 d0 d1)
              have hzq := lt_of_block hq6
              clear hq6 hs6 HS6
              have hn24 : ps.length ≤ 24 := by have := HI.out.len; omega
              have HOWN := Lib.hid HS9.out.own
              go_wp2_with (at_builtin; go_must (refine wpList_append_sl _ rfl _ _ 25 rfl (b + 1) 49 i0 (.agg #[.int .i8 0, .int .i8 0, .int .i8 0, .int .i8 0, .int .i8 0]) 5 5 Tryz.underlying25 hi hz0 hz1 hz2 rfl (by decide) _ _ _ rfl (own_below HOWN.out (bl_alloc (Below.refl _ _)) (Nat.le_refl _)) (some ⟨_, 0, none⟩) 1 1 [.int .i8 m, .int .i8 n, .int .i8 pk, .int .i8 pt, .int .i8 pd] rfl (sl_newD _ #[.int .i8 m, .int .i8 n, .int .i8 pk, .int .i8 pt, .int .i8 pd] _ _ (by simp)) rfl (Pc.one (⟨m, n, pk, pt, pd⟩ : Pc)) (by unfold maxLen; omega) (by omega) (by simp; omega) ?_); intro v3 wz hown3 hgrow; have hbk := HS9.out.push_blk hgrow; obtain ⟨e0, e1, e2, ef⟩ := three_cells hbk; obtain ⟨a3, cap3, rfl, -⟩ := own_at hown3)
              go_roundw
              case rel => exact ⟨m + 1, _, ps ++ [(⟨m, n, pk, pt, pd⟩ : Pc)], by omega, by go_num, by rw [show ((m + 1 : Nat) : Int) = (m : Int) + 1 by omega]; exact HI.out.push (⟨m, n, pk, pt, pd⟩ : Pc) HOK.out.1 HOK.out.2 rfl rfl (by omega) hlt2 (by omega) hlt1, (HS9.out.push (P := (⟨m, n, pk, pt, pd⟩ : Pc)) hp hWb hgrow hown3).le (by omega)⟩
              case measure => simp [intOf]; omega
        · have hme : m = wd := by omega
          go_wp2_with fail
          go_roundw
          case rel => exact ⟨n + 1, v, ps, by omega, by go_num, by rw [show ((n + 1 : Nat) : Int) = (n : Int) + 1 by omega]; exact HI.out.row (by omega), HS.out.le (by omega)⟩
          case measure => simp [intOf]; omega
    · have hne : n = hg := by omega
      obtain ⟨av, capv, hve, -⟩ := own_at hS.own
      subst hve
      have hq := blk_kept HWq.out hS.grown (by simp; omega)
      obtain ⟨d0, d1, d2, df⟩ := three_cells hq
      go_wp2_with fail
      have hh := set_block (set_block (set_block hq 0 (.int .i8 wd)) 1 (.int .i8 hg)) 2 (.slice av ps.length capv)
      refine bodyPost_ret (v := bdv wd hg (.slice av ps.length capv)) (results_cell_row Tryz.results41 _ _ w.heap.size 27 _ (0, 0) _ rfl hh Tryz.underlying27 rfl (by kernel_rfl)) rfl ⟨(wd : Int), (hg : Int), .slice av ps.length capv, rfl, ps, hI.vBd (by omega) (by omega) (by omega), ⟨⟨by show (-128 : Int) ≤ wd; omega, by show (wd : Int) ≤ 127; omega⟩, ⟨by show (-128 : Int) ≤ hg; omega, by show (hg : Int) ≤ 127; omega⟩, hI.ok⟩, by have := hI.len; omega, ?_, ?_, ?_⟩
      · have hown := own_mono (base := w.heap.size) hS.own (by omega)
        have hk : ∀ q, (Value.slice av ps.length capv).ownBlock = some q → some q ≠ some w.heap.size := fun q hq e => by have := (hS.own.lt q hq).1; simp at e; omega
        exact own_kept (own_kept (own_kept hown (grown_set1 _ _ 0 _) hk) (grown_set1 _ _ 1 _) hk) (grown_set1 _ _ 2 _) hk
      · have hs9 := hS.src.le (show k + 4 + n * 90 ≤ k + 1000 by omega)
        exact (by repeat (first | with_reducible assumption | with_reducible apply SrcAt.drewN | with_reducible apply SrcAt.drew | with_reducible apply SrcAt.alloc | (with_reducible refine SrcAt.setNew ?_ (by omega) _)))
      · have hgA := grown_trans HWg.out hS.grown
        exact (by repeat (first | with_reducible exact grown_refl _ _ | with_reducible assumption | with_reducible apply grownS_drewN | with_reducible apply grownS_drew | with_reducible apply grownS_alloc | (with_reducible refine grown_setNew ?_ (by first | omega | (simp; omega)) _) | with_reducible refine grown_trans ?_ (by with_reducible assumption)))
end Go.Proofs.YtmeefmoblkiebaaGreat
/- Contracts: pushes that are drawn; the board and the pushes of the laws. -/
namespace Go.Proofs.YtmeefmoblkiebaaGreat
open Go.RowKit
set_option linter.unusedVariables false
set_option linter.unusedSimpArgs false
set_option maxHeartbeats 400000
set_option maxRecDepth 100000
theorem infoPuD : (Tryz.prog.info? 89).map (fun i => (i.zero, i.size, i.bytes)) = some (some (.agg #[.int .i8 0, .int .i8 0, .int .i8 0, .int .i16 0]), 4, 6) := by kernel_rfl
theorem fnd_pc (ps : List Pc) (j : Nat) (hj : j < ps.length) : 0 ≤ fnd ⟨ps[j].x, ps[j].y⟩ ps := by
  unfold fnd
  cases hf : ps.findIdx? (fun q => decide (q.at_ = (⟨ps[j].x, ps[j].y⟩ : Ce))) with
  | none =>
    rw [List.findIdx?_eq_none_iff] at hf
    have := hf ps[j] (List.getElem_mem hj)
    simp [Pc.at_] at this
  | some k => exact Int.natCast_nonneg k
/-- A board whose memory lies below the source. -/
def BdP (w : World) (p b0 : Nat) (l : Bd) : Prop := b0 < p ∧ p < w.heap.size ∧ ∃ a cap, BdAt w b0 l.wd l.hg (.slice a l.ps.length cap) ∧ SlAt p w a (flat Pc.cells l.ps)
theorem BdP.step {w w' : World} {p b0 : Nat} {l : Bd} (h : BdP w p b0 l) (hg : w.grownBy w' (some p)) : BdP w' p b0 l := by
  obtain ⟨h1, h2, a, cap, h3, h4⟩ := h
  refine ⟨h1, Nat.lt_of_lt_of_le h2 hg.size, a, cap, ?_, h4.grownP (p := p) hg (by omega) (fun g e => by cases e; exact Nat.le_refl _)⟩
  have e : ∀ o, w'.cell? ⟨b0, o, none⟩ = w.cell? ⟨b0, o, none⟩ := fun o => World.cell?_of_block (a := ⟨b0, o, none⟩) (hg.block b0 (by omega) (fun e => by simp at e; omega))
  unfold BdAt at *
  rw [e, e, e]
  exact h3
/-- A push at a piece of the board. -/
def PuD (l : Bd) (q : Pu) : Prop := q.ok ∧ plainPu q = true ∧ 0 ≤ fnd ⟨q.x, q.y⟩ l.ps
theorem PuD.mk' {l : Bd} (hl : l.ok) {j : Nat} (hj : j < l.ps.length) {s t : Int} (s0 : 0 ≤ s) (s1 : s ≤ 3) (t0 : 0 ≤ t) (t1 : t ≤ 5) : PuD l ⟨l.ps[j].x, l.ps[j].y, s, t⟩ := by
  refine ⟨⟨(hl.2.2 j hj).1.1, (hl.2.2 j hj).1.2, ⟨by show -128 ≤ s; omega, by show s ≤ 127; omega⟩, ⟨by show -32768 ≤ t; omega, by show t ≤ 32767; omega⟩⟩, ?_, fnd_pc _ _ hj⟩
  simp [plainPu, inB]
  omega
theorem PuD.vPus {l : Bd} {qs : List Pu} (h : ∀ q ∈ qs, PuD l q) (hn : qs.length ≤ 20) : Go.Proofs.YtmeefmoblkiebaaGreat.vPus l qs = true ∧ PusOk qs := by
  refine ⟨?_, fun k hk => (h _ (List.getElem_mem hk)).1⟩
  unfold Go.Proofs.YtmeefmoblkiebaaGreat.vPus
  simp only [Bool.and_eq_true, decide_eq_true_eq, List.all_eq_true]
  exact ⟨⟨hn, fun q hq => (h q hq).2.1⟩, fun q hq => (h q hq).2.2⟩
theorem four_cells {w : World} {b : Nat} {v0 v1 v2 v3 : Value} {T : TypeId} (h : w.heap[b]? = some (.cells #[v0, v1, v2, v3] T (0, 0))) :
    w.cell? ⟨b, 0, none⟩ = some v0 ∧ w.cell? ⟨b, 1, none⟩ = some v1 ∧ w.cell? ⟨b, 2, none⟩ = some v2 ∧ w.cell? ⟨b, 3, none⟩ = some v3 ∧
    w.frozen? ⟨b, 0, none⟩ = false ∧ w.frozen? ⟨b, 1, none⟩ = false ∧ w.frozen? ⟨b, 2, none⟩ = false ∧ w.frozen? ⟨b, 3, none⟩ = false := by
  refine ⟨by simp [World.cell?, h], by simp [World.cell?, h], by simp [World.cell?, h], by simp [World.cell?, h], by simp [World.frozen?, h], by simp [World.frozen?, h], by simp [World.frozen?, h], by simp [World.frozen?, h]⟩
theorem four_set {w : World} {b : Nat} {v0 v1 v2 v3 : Value} {T : TypeId} (h : w.heap[b]? = some (.cells #[v0, v1, v2, v3] T (0, 0))) (u0 u1 u2 u3 : Value) :
    ((((w.setCell ⟨b, 0, none⟩ u0).setCell ⟨b, 1, none⟩ u1).setCell ⟨b, 2, none⟩ u2).setCell ⟨b, 3, none⟩ u3).heap[b]? = some (.cells #[u0, u1, u2, u3] T (0, 0)) :=
  set_block (set_block (set_block (set_block h 0 u0) 1 u1) 2 u2) 3 u3
/-- The pushes while they are drawn. -/
structure PuS (w wr : World) (p b0 : Nat) (l : Bd) (code : List Int) (k : Nat) (v : Value) (qs : List Pu) : Prop where
  bd : BdP wr p b0 l
  own : wr.ownsRow w.heap.size 89 4 v qs.length (flat Pu.cells qs)
  src : SrcAt wr p code k
  grown : w.grownBy wr (some p)
  pu : ∀ q ∈ qs, PuD l q
theorem PuS.le {w wr : World} {p b0 : Nat} {l : Bd} {code : List Int} {k k' : Nat} {v : Value} {qs : List Pu} (h : PuS w wr p b0 l code k v qs) (hk : k ≤ k') : PuS w wr p b0 l code k' v qs := ⟨h.bd, h.own, h.src.le hk, h.grown, h.pu⟩
theorem PuS.draw {w wr w' : World} {p b0 : Nat} {l : Bd} {code : List Int} {k k' : Nat} {v : Value} {qs : List Pu} (h : PuS w wr p b0 l code k v qs) (hp : p < w.heap.size) (hs : SrcAt w' p code k') (hg' : wr.grownBy w' (some p)) : PuS w w' p b0 l code k' v qs :=
  ⟨h.bd.step hg', own_kept h.own hg' (fun q hq e => by have := (h.own.lt q hq).1; simp at e; omega), hs, grown_trans h.grown hg', h.pu⟩
theorem PuS.alloc {w wr : World} {p b0 : Nat} {l : Bd} {code : List Int} {k : Nat} {v : Value} {qs : List Pu} (h : PuS w wr p b0 l code k v qs) (hp : p < w.heap.size) (o : Obj) : PuS w (wr.alloc o) p b0 l code k v qs :=
  h.draw hp h.src.alloc (World.grownBy_alloc wr o (some p))
theorem BdP.set {w : World} {p b0 q o : Nat} {l : Bd} (h : BdP w p b0 l) (hq : p < q) (u : Value) : BdP (w.setCell ⟨q, o, none⟩ u) p b0 l := by
  obtain ⟨h1, h2, a, cap, h3, h4⟩ := h
  have hg := grown_set1 w q o u
  refine ⟨h1, by simpa using h2, a, cap, ?_, h4.grownP (p := p) hg (by omega) (fun g e => by cases e; omega)⟩
  have e : ∀ i, (w.setCell ⟨q, o, none⟩ u).cell? ⟨b0, i, none⟩ = w.cell? ⟨b0, i, none⟩ := fun i => World.cell?_of_block (a := ⟨b0, i, none⟩) (hg.block b0 (by omega) (fun e => by simp at e; omega))
  unfold BdAt at *
  rw [e, e, e]
  exact h3
theorem PuS.set {w wr : World} {p b0 q o : Nat} {l : Bd} {code : List Int} {k : Nat} {v : Value} {qs : List Pu} (h : PuS w wr p b0 l code k v qs) (hp : p < w.heap.size) (hw : w.heap.size ≤ q) (hv : ∀ g, v.ownBlock = some g → g ≠ q) (u : Value) : PuS w (wr.setCell ⟨q, o, none⟩ u) p b0 l code k v qs :=
  ⟨h.bd.set (by omega) u, own_kept h.own (grown_set1 wr q o u) (fun g hg e => hv g hg (by simpa using e)), h.src.setNew (by omega) u, grown_setNew h.grown hw u, h.pu⟩
theorem PuS.own_lt {w wr : World} {p b0 : Nat} {l : Bd} {code : List Int} {k : Nat} {v : Value} {qs : List Pu} (h : PuS w wr p b0 l code k v qs) : ∀ g, v.ownBlock = some g → g < wr.heap.size := fun g hg => (h.own.lt g hg).2
theorem PuS.push {w wr w6 : World} {p b0 : Nat} {l : Bd} {code : List Int} {k : Nat} {v v' : Value} {qs : List Pu} {q : Pu} {o : Obj} (h : PuS w wr p b0 l code k v qs) (hp : p < w.heap.size) (hgrow : (wr.alloc o).grownBy w6 v.ownBlock) (hq : PuD l q) (hown : w6.ownsRow w.heap.size 89 4 v' (qs.length + 1) (flat Pu.cells qs ++ q.cells)) :
    PuS w w6 p b0 l code k v' (qs ++ [q]) := by
  have hv : ∀ q, v.ownBlock = some q → w.heap.size ≤ q := fun q hq => (h.own.lt q hq).1
  have h1 := h.alloc hp o
  have hs6 : SrcAt w6 p code k := h1.src.grown hgrow (fun g e => by have := hv g e; omega)
  have hg6 : w.grownBy w6 (some p) := by
    cases hvb : v.ownBlock with
    | none => rw [hvb] at hgrow; exact grown_trans h1.grown ⟨hgrow.os, hgrow.tape, hgrow.output, hgrow.size, fun i hi _ => hgrow.block i hi (by simp)⟩
    | some q => rw [hvb] at hgrow; exact grown_new h1.grown hgrow (by have := hv q hvb; omega)
  have hb6 : BdP w6 p b0 l := by
    obtain ⟨h1', h2', a, cap, h3, h4⟩ := h1.bd
    refine ⟨h1', Nat.lt_of_lt_of_le h2' hgrow.size, a, cap, ?_, h4.grownP (p := p) hgrow (by omega) (fun g e => by have := hv g e; omega)⟩
    have e : ∀ i, w6.cell? ⟨b0, i, none⟩ = (wr.alloc o).cell? ⟨b0, i, none⟩ := fun i => World.cell?_of_block (a := ⟨b0, i, none⟩) (hgrow.block b0 (by omega) (fun e => by have := hv b0 e.symm; omega))
    unfold BdAt at *
    rw [e, e, e]
    exact h3
  have e : flat Pu.cells qs ++ q.cells = flat Pu.cells (qs ++ [q]) := by rw [flat_append]; simp [flat]
  rw [e] at hown
  refine ⟨hb6, by rw [List.length_append]; exact hown, hs6, hg6, ?_⟩
  intro r hr
  rw [List.mem_append, List.mem_singleton] at hr
  rcases hr with hr | rfl
  · exact h.pu r hr
  · exact hq
theorem ext_p {w w' : World} {p : Nat} (h : w.grownBy w' (some p)) (hp : p ≤ w.heap.size) : w.grownBy w' (some p) ∧ ∀ b o, b < p → w'.cell? ⟨b, o, none⟩ = w.cell? ⟨b, o, none⟩ :=
  ⟨h, fun b o hb => World.cell?_of_block (a := ⟨b, o, none⟩) (h.block b (by omega) (fun e => by simp at e; omega))⟩
theorem fin_push {W wx : World} {p k b j : Nat} {code : List Int} {ps : List Pc} {T : TypeId} (hj : j < ps.length) (h : wx.heap[b]? = some (.cells #[.int .i8 ps[j].x, .int .i8 ps[j].y, .int .i8 0, .int .i16 0] T (0, 0))) (hb : W.heap.size ≤ b) (hs : SrcAt wx p code k) (hg : W.grownBy wx (some p)) :
    ∃ (b' : Nat) (j : Nat) (hj : j < ps.length), Value.pointer (some ⟨b, 0, none⟩) = .pointer (some ⟨b', 0, none⟩) ∧ W.heap.size ≤ b' ∧ wx.heap[b']? = some (.cells #[.int .i8 ps[j].x, .int .i8 ps[j].y, .int .i8 0, .int .i16 0] T (0, 0)) ∧ SrcAt wx p code k ∧ W.grownBy wx (some p) :=
  ⟨b, j, hj, rfl, hb, h, hs, hg⟩
set_option maxHeartbeats 1600000 in
theorem l02Drawn_any (p b0 : Nat) (l : Bd) (hl : l.ok) (hn : l.ps.length ≤ 1000) (code : List Int) (k : Nat) (w : World) (hs : SrcAt w p code k) (hB : BdP w p b0 l) (hc : BytesOk code) (hk : k ≤ 700000) :
    Calls Tryz.prog 43 #[.pointer (some ⟨p, 0, none⟩), .pointer (some ⟨b0, 0, none⟩)] w fun e w' => ∃ (v : Value), e = .returned v ∧ ∃ qs : List Pu, (∀ q ∈ qs, PuD l q) ∧ qs.length ≤ 3 ∧ w'.ownsRow w.heap.size 89 4 v qs.length (flat Pu.cells qs) ∧ SrcAt w' p code (k + 100) ∧ w.grownBy w' (some p) := by
  have hlt := hs.lt
  obtain ⟨i0, hi, hz0, hz1, hz2⟩ := info_parts infoPuD
  have HP := Lib.hid (fun w' j (h : SrcAt w' p code j) (hj : j ≤ 900000) (n : Int) (hn : n ≤ 1000000) => pick_any p code j w' n h hc hj hn)
  have S0 : Hid (PuS w (w.alloc (.cells #[] 89)) p b0 l code k (.slice (some ⟨w.heap.size, 0, none⟩) 0 0) []) :=
    Lib.hid ⟨hB.step (World.grownBy_alloc _ _ _), World.ownsRow_made (e := 89) (size := 4) w #[] 0 (Nat.le_refl _) (by simp [maxLen]) rfl, hs.alloc, World.grownBy_alloc _ _ _, by simp⟩
  obtain ⟨ba, bp, a, cap, hbd, hsl⟩ := S0.out.bd
  unfold BdAt at hbd
  obtain ⟨c0, c1, c2⟩ := hbd
  clear hsl
  by_cases h0 : l.ps.length = 0
  · have g0 : ((l.ps.length : Int) == 0) = true := by simp [h0]
    have H0 := Lib.hid h0
    clear h0
    go_enter Tryz.func43, Tryz.ntmps43
    go_wp2
    go_ret
    exact ⟨_, rfl, [], by simp, by simp, S0.out.own, S0.out.src.le (by omega), S0.out.grown⟩
  · have g0 : ((l.ps.length : Int) == 0) = false := beq_false_of_ne (by omega)
    have hn1 : 1 ≤ l.ps.length := by omega
    clear h0
    go_enter Tryz.func43, Tryz.ntmps43
    go_wp2_with fail
    refine (HP.out _ _ S0.out.src (by omega) _ (by omega)).mono ?_
    rintro e w1 ⟨x, rfl, x0, x1, hs1, hg1⟩
    have S1 := Lib.hid (S0.out.draw hlt hs1 hg1)
    obtain ⟨m0, hm0⟩ : ∃ m0 : Nat, x = (m0 : Int) := ⟨x.toNat, by omega⟩
    subst hm0
    clear c0 c1 c2 S0 hg1 hs1 g0
    go_wp2_with fail
    go_loopw [5, 6] (fun v i wr => ∃ (m : Nat) (qs : List Pu), m ≤ 3 ∧ qs.length + m ≤ 3 ∧ i = .int .i64 (m : Int) ∧ PuS w wr p b0 l code (k + 2 + (3 - m) * 6) v qs) (fun _ i _ => (intOf i).toNat)
    case atStart => exact ⟨m0, [], by omega, by simp; omega, rfl, S1.out.le (by omega)⟩
    case round =>
      clear S1
      obtain ⟨m, qs, hm, hqm, rfl, hS⟩ := hrel
      obtain ⟨W1, hW1⟩ : ∃ W1, W1 = wr := ⟨_, rfl⟩
      subst hW1
      obtain ⟨ba, bp, a, cap, hbd, hsl⟩ := hS.bd
      unfold BdAt at hbd
      obtain ⟨c0, c1, c2⟩ := hbd
      have hs := hS.src
      have HS := Lib.hid hS
      obtain ⟨rb, ro, rfl, hrb, HGET⟩ : ∃ rb ro, a = some ⟨rb, ro, none⟩ ∧ rb < p ∧ Hid (∀ j (hj : j < l.ps.length), PcAt W1 rb (ro + j * 5) l.ps[j]) := by
        obtain ⟨rb, ro, rfl, hrb, -⟩ := pcs_get hsl (k := 0) (by omega)
        refine ⟨rb, ro, rfl, hrb, Lib.hid (fun j hj => ?_)⟩
        obtain ⟨rb', ro', he, -, hat⟩ := pcs_get hsl hj
        cases he
        exact hat
      clear hS hsl
      by_cases hm1 : (m : Int) > 0
      · have hlW : w.heap.size ≤ W1.heap.size := HS.out.grown.size
        have hpW : p < W1.heap.size := by omega
        have hcl : l.ps.length ≤ 1000 := hn
        go_wp2_with fail
        go_cut [7] from 18 to 48 (fun s7 wx => ∃ (b : Nat) (j : Nat) (hj : j < l.ps.length), s7 = .pointer (some ⟨b, 0, none⟩) ∧ W1.heap.size ≤ b ∧ wx.heap[b]? = some (.cells #[.int .i8 l.ps[j].x, .int .i8 l.ps[j].y, .int .i8 0, .int .i16 0] 89 (0, 0)) ∧ SrcAt wx p code (k + 2 + (3 - m) * 6 + 2) ∧ W1.grownBy wx (some p))
        case first =>
          go_region_held3 (fun w' => W1.grownBy w' (some p) ∧ ∀ b o, b < p → w'.cell? ⟨b, o, none⟩ = W1.cell? ⟨b, o, none⟩) ((refine ext_p ?_ (by omega); exact (by repeat (first | with_reducible exact grown_refl _ _ | with_reducible assumption | with_reducible apply grownS_drewN | with_reducible apply grownS_drew | with_reducible apply grownS_alloc | (with_reducible refine grown_setNew ?_ (by first | omega | (simp; omega)) _) | with_reducible refine grown_trans ?_ (by with_reducible assumption))))) (first | (go_at_call 67; refine (HP.out _ _ (by repeat (first | with_reducible assumption | with_reducible apply SrcAt.drewN | with_reducible apply SrcAt.drew | with_reducible apply SrcAt.alloc | (with_reducible refine SrcAt.setNew ?_ (by omega) _))) (by omega) _ (by omega)).mono ?_; rintro e w2 ⟨u, rfl, u0, u1, hs2, hg2⟩; have hp2 := hs2.lt; obtain ⟨j, hj, hj2⟩ : ∃ j : Nat, u = (j : Int) ∧ j < l.ps.length := ⟨u.toNat, by omega, by omega⟩; subst hj; have hj3 : (j : Int) < (l.ps.length : Int) := (by omega); obtain ⟨q0, q1, -⟩ := HGET.out j hj2; (try (have hbk := Lib.hid (alloc_keptD hg2 hpW); obtain ⟨y0, y1, y2, y3, z0, z1, z2, z3⟩ := four_cells hbk.out)); have hz1 := hg2.size; (try simp [Nat.succ_le_iff] at hz1)))
          all_goals
            go_wp2_with fail
            go_meet
            with_reducible apply fin_push hj2
            · first | with_reducible exact heap_alloc_new _ _ | with_reducible exact four_set hbk.out _ _ _ _
            · omega
            · exact (by repeat (first | with_reducible assumption | with_reducible apply SrcAt.drewN | with_reducible apply SrcAt.drew | with_reducible apply SrcAt.alloc | (with_reducible refine SrcAt.setNew ?_ (by omega) _)))
            · exact (by repeat (first | with_reducible exact grown_refl _ _ | with_reducible assumption | with_reducible apply grownS_drewN | with_reducible apply grownS_drew | with_reducible apply grownS_alloc | (with_reducible refine grown_setNew ?_ (by first | omega | (simp; omega)) _) | with_reducible refine grown_trans ?_ (by with_reducible assumption)))
        case rest =>
          obtain ⟨b, j, hj, rfl, hbW, hblk, hs2, hg2⟩ := hcut
          have HS2 := Lib.hid (HS.out.draw hlt hs2 hg2)
          have HQV : Hid (∀ g, Value.ownBlock u5 = some g → g ≠ b) := Lib.hid (fun g hg e => by have := HS.out.own_lt g hg; omega)
          have hwb : w.heap.size ≤ b := by omega
          have hqb := lt_of_block hblk
          obtain ⟨m, rfl⟩ : ∃ m', m = m' + 1 := ⟨m - 1, by omega⟩
          clear hg2 hs HS HGET c0 c1 c2
          go_wp2_with fail
          refine (HP.out _ _ hs2 (by omega) _ (by omega)).mono ?_
          rintro e w3 ⟨s, rfl, s0, s1, hs3, hg3⟩
          have s2 : s ≤ 3 := by omega
          have es : IntKind.i8.wrap s = s := by simp [IntKind.wrap, IntKind.bits, IntKind.signed]; omega
          have HS3 := Lib.hid (HS2.out.draw hlt hs3 hg3)
          have hq3 := blk_kept hblk hg3 (by simp; omega)
          obtain ⟨a0, a1, a2, a3, f0, f1, f2, f3⟩ := four_cells hq3
          have HS4 := Lib.hid (HS3.out.set (o := 2) hlt hwb HQV.out (.int .i8 s))
          have hq4 : (w3.setCell ⟨b, 2, none⟩ (.int .i8 s)).heap[b]? = some (.cells #[.int .i8 l.ps[j].x, .int .i8 l.ps[j].y, .int .i8 s, .int .i16 0] 89 (0, 0)) := set_block hq3 2 (.int .i8 s)
          have HQ4 := Lib.hid hq4
          clear hq4 hq3 hblk hs2 HS2 HS3 hg3 hs3
          go_wp2_with fail
          have hs4 := HS4.out.src
          refine (HP.out _ _ hs4 (by omega) _ (by omega)).mono ?_
          rintro e w5 ⟨t, rfl, t0, t1, hs5, hg5⟩
          have t2 : t ≤ 5 := by omega
          have et : IntKind.i16.wrap t = t := by simp [IntKind.wrap, IntKind.bits, IntKind.signed]; omega
          have HS5 := Lib.hid (HS4.out.draw hlt hs5 hg5)
          have hq5 := blk_kept HQ4.out hg5 (by simp; omega)
          clear a0 a1 a2 a3 f0 f1 f2 f3 hs4 hg5 hs5 HS4 HQ4
          obtain ⟨a0, a1, a2, a3, f0, f1, f2, f3⟩ := four_cells hq5
          have HS6 := Lib.hid (HS5.out.set (o := 3) hlt hwb HQV.out (.int .i16 t))
          have HOWN := Lib.hid HS6.out.own
          have hzq := lt_of_block hq5
          have hln : qs.length ≤ 3 := by omega
          clear hq5 HS5
          go_wp2_with (at_builtin; go_must (refine wpList_append_sl _ rfl _ _ 29 rfl w.heap.size 89 i0 (.agg #[.int .i8 0, .int .i8 0, .int .i8 0, .int .i16 0]) 4 6 Tryz.underlying29 hi hz0 hz1 hz2 rfl (by decide) _ _ _ rfl (own_below HOWN.out (bl_alloc (Below.refl _ _)) (Nat.le_refl _)) (some ⟨_, 0, none⟩) 1 1 [.int .i8 l.ps[j].x, .int .i8 l.ps[j].y, .int .i8 s, .int .i16 t] rfl (sl_newD _ #[.int .i8 l.ps[j].x, .int .i8 l.ps[j].y, .int .i8 s, .int .i16 t] _ _ (by simp)) rfl (Pu.one ⟨l.ps[j].x, l.ps[j].y, s, t⟩) (by unfold maxLen; omega) (by omega) (by simp; omega) ?_); intro v3 wz hown3 hgrow; obtain ⟨a3, cap3, rfl, -⟩ := own_at hown3)
          go_roundw
          case rel => exact ⟨m, qs ++ [⟨l.ps[j].x, l.ps[j].y, s, t⟩], by omega, by simp only [List.length_append, List.length_cons, List.length_nil]; omega, by go_num, (HS6.out.push (q := ⟨l.ps[j].x, l.ps[j].y, s, t⟩) hlt hgrow (PuD.mk' hl hj s0 s2 t0 t2) hown3).le (by omega)⟩
          case measure => simp [intOf]
      · go_wp2_with fail
        go_ret
        exact ⟨_, rfl, qs, HS.out.pu, by omega, HS.out.own, HS.out.src.le (by omega), HS.out.grown⟩
end Go.Proofs.YtmeefmoblkiebaaGreat
/- Contracts: a machine that is drawn. -/
namespace Go.Proofs.YtmeefmoblkiebaaGreat
open Go.RowKit
set_option linter.unusedVariables false
set_option linter.unusedSimpArgs false
set_option maxHeartbeats 400000
set_option maxRecDepth 100000
theorem infoPoD : (Tryz.prog.info? 127).map (fun i => (i.zero, i.size, i.bytes)) = some (some (.agg #[.int .i8 0, .int .i8 0, .int .i8 0]), 3, 3) := by kernel_rfl
theorem infoCeD : (Tryz.prog.info? 47).map (fun i => (i.zero, i.size, i.bytes)) = some (some (.agg #[.int .i8 0, .int .i8 0]), 2, 2) := by kernel_rfl
theorem run_neq_po (f g : Po) (w : World) : (binOp .neq 127 f.val g.val).run Tryz.prog w = .ok (.bool (decide (f ≠ g))) w := by
  have := run_equal_po f g w
  simp only [binOp]
  simp [this]
theorem among3_any (p b : Nat) (code : List Int) (k cap : Nat) (x0 x1 x2 : Int) (w : World) (hs : SrcAt w p code k) (hc : BytesOk code) (hk : k ≤ 900000) (hp : p < b) (hb : w.heap[b]? = some (.cells #[.int .i64 x0, .int .i64 x1, .int .i64 x2] 2 (0, 0))) :
    Calls Tryz.prog 117 #[.pointer (some ⟨p, 0, none⟩), .slice (some ⟨b, 0, none⟩) 3 cap] w fun e w' => ∃ v : Int, e = .returned (.int .i64 v) ∧ (v = x0 ∨ v = x1 ∨ v = x2) ∧ SrcAt w' p code (k + 2) ∧ w.grownBy w' (some p) := by
  go_enter Tryz.func117, Tryz.ntmps117
  go_wp2_with fail
  refine (pick_any p code k w 3 hs hc hk (by omega)).mono ?_
  rintro e w1 ⟨x, rfl, y0, y1, hs1, hg1⟩
  have hb1 := blk_kept hb hg1 (by simp; omega)
  obtain ⟨c0, c1, c2, cf⟩ := three_cells hb1
  rcases (show x = 0 ∨ x = 1 ∨ x = 2 by omega) with rfl | rfl | rfl
  · go_wp2
    go_ret
    exact ⟨_, rfl, .inl rfl, hs1, hg1⟩
  · go_wp2
    go_ret
    exact ⟨_, rfl, .inr (.inl rfl), hs1, hg1⟩
  · go_wp2
    go_ret
    exact ⟨_, rfl, .inr (.inr rfl), hs1, hg1⟩
theorem five_blk {w : World} {b : Nat} {v0 v1 v2 v3 v4 : Value} {T : TypeId} (h : w.heap[b]? = some (.cells #[v0, v1, v2, v3, v4] T (0, 0))) (u : Value) :
    (w.setCell ⟨b, 2, none⟩ u).heap[b]? = some (.cells #[v0, v1, u, v3, v4] T (0, 0)) ∧ (w.setCell ⟨b, 3, none⟩ u).heap[b]? = some (.cells #[v0, v1, v2, u, v4] T (0, 0)) ∧ (w.setCell ⟨b, 4, none⟩ u).heap[b]? = some (.cells #[v0, v1, v2, v3, u] T (0, 0)) := ⟨set_block h 2 u, set_block h 3 u, set_block h 4 u⟩
/-- The machine while it is drawn. -/
structure MrS (w wr : World) (p b wd hg : Nat) (code : List Int) (k : Nat) (vP : Value) (ps : List Pc) (vI : Value) (is : List Po) (vO : Value) (os : List Ce) : Prop where
  blk : wr.heap[b]? = some (.cells #[.int .i8 wd, .int .i8 hg, vP, vI, vO] 55 (0, 0))
  own : OwnM wr (b + 1) vP vI vO ⟨⟨wd, hg, ps⟩, is, os⟩
  src : SrcAt wr p code k
  grown : w.grownBy wr (some p)
section
variable {w wr w' : World} {p b wd hg : Nat} {code : List Int} {k k' : Nat} {vP : Value} {ps : List Pc} {vI : Value} {is : List Po} {vO : Value} {os : List Ce}
theorem MrS.le (h : MrS w wr p b wd hg code k vP ps vI is vO os) (hk : k ≤ k') : MrS w wr p b wd hg code k' vP ps vI is vO os := ⟨h.blk, h.own, h.src.le hk, h.grown⟩
theorem OwnM.kept {w w' : World} {base : Nat} {s si so : Value} {m : Mc} {row : Option Nat} (h : OwnM w base s si so m) (hg : w.grownBy w' row) (hr : ∀ g, row = some g → g < base ∨ w.heap.size ≤ g ∨ (s.ownBlock ≠ some g ∧ si.ownBlock ≠ some g ∧ so.ownBlock ≠ some g)) : OwnM w' base s si so m := by
  obtain ⟨h1, h2, h3, h4⟩ := h
  refine ⟨own_kept h1 hg ?_, own_kept h2 hg ?_, own_kept h3 hg ?_, h4⟩
  · intro q hq e
    have := h1.lt q hq
    rcases hr q e.symm with h | h | h
    · omega
    · omega
    · exact h.1 hq
  · intro q hq e
    have := h2.lt q hq
    rcases hr q e.symm with h | h | h
    · omega
    · omega
    · exact h.2.1 hq
  · intro q hq e
    have := h3.lt q hq
    rcases hr q e.symm with h | h | h
    · omega
    · omega
    · exact h.2.2 hq
theorem MrS.draw (h : MrS w wr p b wd hg code k vP ps vI is vO os) (hs : SrcAt w' p code k') (hg' : wr.grownBy w' (some p)) (hp : p < b) : MrS w w' p b wd hg code k' vP ps vI is vO os :=
  ⟨blk_kept h.blk hg' (fun e => by simp at e; omega), h.own.kept hg' (fun g e => by cases e; exact .inl (by omega)), hs, grown_trans h.grown hg'⟩
theorem MrS.alloc (h : MrS w wr p b wd hg code k vP ps vI is vO os) (hp : p < b) (o : Obj) : MrS w (wr.alloc o) p b wd hg code k vP ps vI is vO os :=
  h.draw h.src.alloc (World.grownBy_alloc wr o (some p)) hp
theorem MrS.own_lt (h : MrS w wr p b wd hg code k vP ps vI is vO os) : (∀ g, vP.ownBlock = some g → g < wr.heap.size) ∧ (∀ g, vI.ownBlock = some g → g < wr.heap.size) ∧ (∀ g, vO.ownBlock = some g → g < wr.heap.size) :=
  ⟨fun g hg => (h.own.1.lt g hg).2, fun g hg => (h.own.2.1.lt g hg).2, fun g hg => (h.own.2.2.1.lt g hg).2⟩
/-- A block of the call's own that is none of the rows. -/
def NewB (b q : Nat) (vP vI vO : Value) : Prop := b < q ∧ vP.ownBlock ≠ some q ∧ vI.ownBlock ≠ some q ∧ vO.ownBlock ≠ some q
theorem MrS.newb (h : MrS w wr p b wd hg code k vP ps vI is vO os) {q : Nat} (hq : wr.heap.size ≤ q) : NewB b q vP vI vO := by
  obtain ⟨h1, h2, h3⟩ := h.own_lt
  have hb := lt_of_block h.blk
  exact ⟨by omega, fun e => by have := h1 q e; omega, fun e => by have := h2 q e; omega, fun e => by have := h3 q e; omega⟩
theorem MrS.set {q o : Nat} (h : MrS w wr p b wd hg code k vP ps vI is vO os) (hp : p < b) (hw : w.heap.size ≤ q) (hq : NewB b q vP vI vO) (u : Value) : MrS w (wr.setCell ⟨q, o, none⟩ u) p b wd hg code k vP ps vI is vO os :=
  ⟨blk_kept h.blk (grown_set1 wr q o u) (fun e => by have := hq.1; simp at e; omega), h.own.kept (grown_set1 wr q o u) (fun g e => by cases e; exact .inr (.inr hq.2)), h.src.setNew (by have := hq.1; omega) u, grown_setNew h.grown hw u⟩
theorem src_grow {wr w6 : World} {p b k : Nat} {code : List Int} {o : Obj} {row : Option Nat} (hs : SrcAt wr p code k) (hp : p < b) (hgrow : (wr.alloc o).grownBy w6 row) (hv : ∀ q, row = some q → b + 1 ≤ q) : SrcAt w6 p code k :=
  hs.alloc.grown hgrow (fun g e => by have := hv g e; omega)
theorem grow_grow {w wr w6 : World} {p b : Nat} {o : Obj} {row : Option Nat} (h : w.grownBy wr (some p)) (hw : w.heap.size ≤ b) (hgrow : (wr.alloc o).grownBy w6 row) (hv : ∀ q, row = some q → b + 1 ≤ q) : w.grownBy w6 (some p) := by
  have h1 := grownS_alloc h o
  cases row with
  | none => exact grown_trans h1 ⟨hgrow.os, hgrow.tape, hgrow.output, hgrow.size, fun i hi _ => hgrow.block i hi (by simp)⟩
  | some q => exact grown_new h1 hgrow (by have := hv q rfl; omega)
theorem slice_own {g n c : Nat} : (Value.slice (some ⟨g, 0, none⟩) n c).ownBlock = some g := rfl
theorem apart_new {v v1 v' : Value} {g H : Nat} (ha : Apart v v') (h1 : v1.ownBlock = some g) (hg : v.ownBlock = some g ∨ g = H) (hl : ∀ q, v'.ownBlock = some q → q < H) : Apart v1 v' := by
  have key : v'.ownBlock ≠ some g := by
    intro e
    rcases hg with h | h
    · exact ha.1 g h e.symm
    · have := hl g e; omega
  refine ⟨fun q hq e => ?_, fun q hq e => ?_⟩
  · rw [h1] at hq; cases hq; exact key e.symm
  · rw [h1] at e; cases e; exact key hq
theorem apart_symm {v v' : Value} (h : Apart v v') : Apart v' v := ⟨h.2, h.1⟩
theorem own_two {w w6 : World} {base : Nat} {e : TypeId} {size n : Nat} {v v1 : Value} {xs : List Value} (h : w.ownsRow base e size v1 n xs) (ha : Apart v v1) (hgrow : w.grownBy w6 v.ownBlock) : w6.ownsRow base e size v1 n xs :=
  own_kept h hgrow (fun q hq => ha.2 q hq)
theorem MrS.pushP {w6 : World} {o : Obj} {g c : Nat} {P : Pc} (h : MrS w wr p b wd hg code k vP ps vI is vO os) (hp : p < b) (hw : w.heap.size ≤ b) (hgrow : (wr.alloc o).grownBy w6 vP.ownBlock) (hg6 : vP.ownBlock = some g ∨ g = (wr.alloc o).heap.size)
    (hown : w6.ownsRow (b + 1) 49 5 (.slice (some ⟨g, 0, none⟩) (ps.length + 1) c) (ps.length + 1) (flat Pc.cells ps ++ P.cells)) :
    MrS w (w6.setCell ⟨b, 2, none⟩ (.slice (some ⟨g, 0, none⟩) (ps.length + 1) c)) p b wd hg code k (.slice (some ⟨g, 0, none⟩) (ps.length + 1) c) (ps ++ [P]) vI is vO os := by
  have hv : ∀ q, vP.ownBlock = some q → b + 1 ≤ q := fun q hq => (h.own.1.lt q hq).1
  have h1 := h.alloc hp o
  obtain ⟨l1, l2, l3⟩ := h1.own_lt
  have hb6 := blk_kept h1.blk hgrow (fun e => by have := hv b e; omega)
  have e : flat Pc.cells ps ++ P.cells = flat Pc.cells (ps ++ [P]) := by rw [flat_append]; simp [flat]
  rw [e] at hown
  have hgb : b + 1 ≤ g := (hown.lt g rfl).1
  obtain ⟨o1, o2, o3, a1, a2, a3⟩ := h1.own
  have hO : OwnM w6 (b + 1) (.slice (some ⟨g, 0, none⟩) (ps.length + 1) c) vI vO ⟨⟨wd, hg, ps ++ [P]⟩, is, os⟩ :=
    ⟨by show w6.ownsRow _ _ _ _ (ps ++ [P]).length _; rw [List.length_append]; exact hown, own_two o2 a1 hgrow, own_two o3 a2 hgrow, apart_new a1 rfl hg6 l2, apart_new a2 rfl hg6 l3, a3⟩
  exact ⟨(five_blk hb6 _).1, hO.kept (grown_set1 w6 b 2 _) (fun q e => by cases e; exact .inl (by omega)), (src_grow h.src hp hgrow hv).setNew hp _, grown_setNew (grow_grow h.grown hw hgrow hv) hw _⟩
theorem MrS.pushI {w6 : World} {o : Obj} {g c : Nat} {P : Po} (h : MrS w wr p b wd hg code k vP ps vI is vO os) (hp : p < b) (hw : w.heap.size ≤ b) (hgrow : (wr.alloc o).grownBy w6 vI.ownBlock) (hg6 : vI.ownBlock = some g ∨ g = (wr.alloc o).heap.size)
    (hown : w6.ownsRow (b + 1) 127 3 (.slice (some ⟨g, 0, none⟩) (is.length + 1) c) (is.length + 1) (flat Po.cells is ++ P.cells)) :
    MrS w (w6.setCell ⟨b, 3, none⟩ (.slice (some ⟨g, 0, none⟩) (is.length + 1) c)) p b wd hg code k vP ps (.slice (some ⟨g, 0, none⟩) (is.length + 1) c) (is ++ [P]) vO os := by
  have hv : ∀ q, vI.ownBlock = some q → b + 1 ≤ q := fun q hq => (h.own.2.1.lt q hq).1
  have h1 := h.alloc hp o
  obtain ⟨l1, l2, l3⟩ := h1.own_lt
  have hb6 := blk_kept h1.blk hgrow (fun e => by have := hv b e; omega)
  have e : flat Po.cells is ++ P.cells = flat Po.cells (is ++ [P]) := by rw [flat_append]; simp [flat]
  rw [e] at hown
  have hgb : b + 1 ≤ g := (hown.lt g rfl).1
  obtain ⟨o1, o2, o3, a1, a2, a3⟩ := h1.own
  have hO : OwnM w6 (b + 1) vP (.slice (some ⟨g, 0, none⟩) (is.length + 1) c) vO ⟨⟨wd, hg, ps⟩, is ++ [P], os⟩ :=
    ⟨own_two o1 (apart_symm a1) hgrow, by show w6.ownsRow _ _ _ _ (is ++ [P]).length _; rw [List.length_append]; exact hown, own_two o3 a3 hgrow, apart_symm (apart_new (apart_symm a1) rfl hg6 l1), a2, apart_new a3 rfl hg6 l3⟩
  exact ⟨(five_blk hb6 _).2.1, hO.kept (grown_set1 w6 b 3 _) (fun q e => by cases e; exact .inl (by omega)), (src_grow h.src hp hgrow hv).setNew hp _, grown_setNew (grow_grow h.grown hw hgrow hv) hw _⟩
theorem MrS.pushO {w6 : World} {o : Obj} {g c : Nat} {P : Ce} (h : MrS w wr p b wd hg code k vP ps vI is vO os) (hp : p < b) (hw : w.heap.size ≤ b) (hgrow : (wr.alloc o).grownBy w6 vO.ownBlock) (hg6 : vO.ownBlock = some g ∨ g = (wr.alloc o).heap.size)
    (hown : w6.ownsRow (b + 1) 47 2 (.slice (some ⟨g, 0, none⟩) (os.length + 1) c) (os.length + 1) (flat Ce.cells os ++ P.cells)) :
    MrS w (w6.setCell ⟨b, 4, none⟩ (.slice (some ⟨g, 0, none⟩) (os.length + 1) c)) p b wd hg code k vP ps vI is (.slice (some ⟨g, 0, none⟩) (os.length + 1) c) (os ++ [P]) := by
  have hv : ∀ q, vO.ownBlock = some q → b + 1 ≤ q := fun q hq => (h.own.2.2.1.lt q hq).1
  have h1 := h.alloc hp o
  obtain ⟨l1, l2, l3⟩ := h1.own_lt
  have hb6 := blk_kept h1.blk hgrow (fun e => by have := hv b e; omega)
  have e : flat Ce.cells os ++ P.cells = flat Ce.cells (os ++ [P]) := by rw [flat_append]; simp [flat]
  rw [e] at hown
  have hgb : b + 1 ≤ g := (hown.lt g rfl).1
  obtain ⟨o1, o2, o3, a1, a2, a3⟩ := h1.own
  have hO : OwnM w6 (b + 1) vP vI (.slice (some ⟨g, 0, none⟩) (os.length + 1) c) ⟨⟨wd, hg, ps⟩, is, os ++ [P]⟩ :=
    ⟨own_two o1 (apart_symm a2) hgrow, own_two o2 (apart_symm a3) hgrow, by show w6.ownsRow _ _ _ _ (os ++ [P]).length _; rw [List.length_append]; exact hown, a1, apart_symm (apart_new (apart_symm a2) rfl hg6 l1), apart_symm (apart_new (apart_symm a3) rfl hg6 l2)⟩
  exact ⟨(five_blk hb6 _).2.2, hO.kept (grown_set1 w6 b 4 _) (fun q e => by cases e; exact .inl (by omega)), (src_grow h.src hp hgrow hv).setNew hp _, grown_setNew (grow_grow h.grown hw hgrow hv) hw _⟩
end
theorem own_posD {w : World} {base : Nat} {e : TypeId} {size n : Nat} {v : Value} {xs : List Value} (h : w.ownsRow base e size v n xs) (hn : 0 < n) : ∃ g cap, v = .slice (some ⟨g, 0, none⟩) n cap ∧ base ≤ g := by
  rcases h.2 with ⟨-, h0⟩ | ⟨g, cap3, cur, hve, hg, -⟩
  · omega
  · exact ⟨g, cap3, hve, hg⟩
theorem ext_m {w w' : World} {p b rb : Nat} {v : Value} (h : w.grownBy w' (some p)) (c : w.cell? ⟨b, 2, none⟩ = some v) (hb : b < w.heap.size) (hp : b ≠ p) (hr : rb < w.heap.size) (hrp : rb ≠ p) : w.grownBy w' (some p) ∧ w'.cell? ⟨b, 2, none⟩ = some v ∧ ∀ o, w'.cell? ⟨rb, o, none⟩ = w.cell? ⟨rb, o, none⟩ := by
  refine ⟨h, ?_, fun o => World.cell?_of_block (a := ⟨rb, o, none⟩) (h.block rb hr (fun e => hrp (by simpa using e)))⟩
  rw [World.cell?_of_block (a := ⟨b, 2, none⟩) (h.block b hb (fun e => hp (by simpa using e)))]
  exact c
theorem three_set3 {w : World} {b : Nat} {v0 v1 v2 : Value} {T : TypeId} (h : w.heap[b]? = some (.cells #[v0, v1, v2] T (0, 0))) (u0 u1 u2 : Value) :
    (((w.setCell ⟨b, 0, none⟩ u0).setCell ⟨b, 1, none⟩ u1).setCell ⟨b, 2, none⟩ u2).heap[b]? = some (.cells #[u0, u1, u2] T (0, 0)) := set_block (set_block (set_block h 0 u0) 1 u1) 2 u2
theorem fin_port {W wx : World} {p k q j : Nat} {code : List Int} {ps : List Pc} {T : TypeId} (hj : j < ps.length) (h : wx.heap[q]? = some (.cells #[.int .i8 ps[j].x, .int .i8 ps[j].y, .int .i8 0] T (0, 0))) (hb : W.heap.size ≤ q) (hs : SrcAt wx p code k) (hg : W.grownBy wx (some p)) :
    ∃ (q' j : Nat) (hj : j < ps.length), Value.pointer (some ⟨q, 0, none⟩) = .pointer (some ⟨q', 0, none⟩) ∧ W.heap.size ≤ q' ∧ wx.heap[q']? = some (.cells #[.int .i8 ps[j].x, .int .i8 ps[j].y, .int .i8 0] T (0, 0)) ∧ SrcAt wx p code k ∧ W.grownBy wx (some p) :=
  ⟨q, j, hj, rfl, hb, h, hs, hg⟩
theorem sl_newsD (w : World) (cs : Array Value) (T : TypeId) (g : Nat) (hg : g = w.heap.size) : ∀ j u, cs.toList[j]? = some u → (w.alloc (.cells cs T)).cell? ((⟨g, 0, none⟩ : Addr).add j) = some u := by
  subst hg
  exact World.news_of_block (heap_alloc_new w (.cells cs T))
/-- The boxes' cells behind an append. -/
theorem MrS.after {w wr w6 : World} {p b wd hg : Nat} {code : List Int} {k : Nat} {vP : Value} {ps : List Pc} {vI : Value} {is : List Po} {vO : Value} {os : List Ce} {o : Obj} {row : Option Nat} (h : MrS w wr p b wd hg code k vP ps vI is vO os) (hp : p < b) (hgrow : (wr.alloc o).grownBy w6 row) (hv : ∀ q, row = some q → b + 1 ≤ q) :
    w6.heap[b]? = some (.cells #[.int .i8 wd, .int .i8 hg, vP, vI, vO] 55 (0, 0)) := blk_kept (h.alloc hp o).blk hgrow (fun e => by have := hv b e; omega)
set_option maxHeartbeats 8000000 in
set_option maxRecDepth 100000 in
theorem l03Drawn_any (p : Nat) (code : List Int) (k : Nat) (w : World) (hs : SrcAt w p code k) (hc : BytesOk code) (hk : k ≤ 700000) :
    Calls Tryz.prog 66 #[.pointer (some ⟨p, 0, none⟩)] w fun e w' => ∃ (wd hg : Int) (vP vI vO : Value), e = .returned (mcv wd hg vP vI vO) ∧ ∃ (ps : List Pc) (is : List Po) (os : List Ce), vMc ⟨⟨wd, hg, ps⟩, is, os⟩ = true ∧ (Mc.mk ⟨wd, hg, ps⟩ is os).ok ∧ is.length ≤ 3 ∧ OwnM w' w.heap.size vP vI vO ⟨⟨wd, hg, ps⟩, is, os⟩ ∧ SrcAt w' p code (k + 1000) ∧ w.grownBy w' (some p) := by
  have hlt := hs.lt
  obtain ⟨i0, hi, hz0, hz1, hz2⟩ := info_parts infoPcD
  obtain ⟨i1, hi1, hi10, hi11, hi12⟩ := info_parts infoPoD
  obtain ⟨i2, hi2, hi20, hi21, hi22⟩ := info_parts infoCeD
  obtain ⟨W, hW⟩ : ∃ W, W = w.alloc (.cells #[.int .i8 0, .int .i8 0, .slice none 0 0, .slice none 0 0, .slice none 0 0] 55) := ⟨_, rfl⟩
  have hWs : w.heap.size < W.heap.size := by rw [hW]; simp
  have hWg : w.grownBy W (some p) := by rw [hW]; exact grownS_alloc (grown_refl _ _) _
  have hsW : SrcAt W p code k := by rw [hW]; exact hs.alloc
  have hWq : W.heap[w.heap.size]? = some (.cells #[.int .i8 0, .int .i8 0, .slice none 0 0, .slice none 0 0, .slice none 0 0] 55 (0, 0)) := by rw [hW]; exact heap_alloc_new _ _
  have HP := Lib.hid (fun w' j (h : SrcAt w' p code j) (hj : j ≤ 900000) (n : Int) (hn : n ≤ 1000000) => pick_any p code j w' n h hc hj hn)
  have HO := Lib.hid (fun w' j (h : SrcAt w' p code j) (hj : j ≤ 900000) (n : Int) (hn : n ≤ 1000000) => one_any p code j w' n h hc hj hn)
  have HD := Lib.hid (fun w' j (h : SrcAt w' p code j) (hj : j ≤ 800000) c (hco : Ce.ok c) => l01PieceDrawn_any p code j w' c h hc hj hco)
  have HWq := Lib.hid hWq
  have HWg := Lib.hid hWg
  go_enter Tryz.func66, Tryz.ntmps66
  go_wp2_with fail
  rw [← hW]
  clear hW hWq hWg
  refine (HP.out _ _ hsW (by omega) _ (by omega)).mono ?_
  rintro e w1 ⟨x, rfl, x0, x1, hs1, hg1⟩
  obtain ⟨wd, hwd, hwd1⟩ : ∃ wd : Nat, IntKind.i64.wrap (2 + x) = (wd : Int) ∧ 2 ≤ wd ∧ wd ≤ 5 := by
    have : IntKind.i64.wrap (2 + x) = 2 + x := wrap_i64' _ (by omega) (by omega)
    exact ⟨(2 + x).toNat, by omega, by omega, by omega⟩
  have hwd8 : IntKind.i8.wrap (wd : Int) = wd := by simp [IntKind.wrap, IntKind.bits, IntKind.signed]; omega
  go_wp2_with fail
  refine (HP.out _ _ hs1 (by omega) _ (by omega)).mono ?_
  rintro e w2 ⟨y, rfl, y0, y1, hs2, hg2⟩
  obtain ⟨hg, hhg, hhg1⟩ : ∃ hg : Nat, IntKind.i64.wrap (1 + y) = (hg : Int) ∧ 1 ≤ hg ∧ hg ≤ 2 := by
    have : IntKind.i64.wrap (1 + y) = 1 + y := wrap_i64' _ (by omega) (by omega)
    exact ⟨(1 + y).toNat, by omega, by omega, by omega⟩
  have hhg8 : IntKind.i8.wrap (hg : Int) = hg := by simp [IntKind.wrap, IntKind.bits, IntKind.signed]; omega
  have hg02 := grown_trans hg1 hg2
  have hz2' := hg02.size
  obtain ⟨b, hb⟩ : ∃ b, b = w2.heap.size := ⟨_, rfl⟩
  have DS : Hid (MrS W (w2.alloc (.cells #[.int .i8 wd, .int .i8 hg, .slice none 0 0, .slice none 0 0, .slice none 0 0] 55)) p b wd hg code (k + 4) (.slice none 0 0) [] (.slice none 0 0) [] (.slice none 0 0) []) := by
    subst hb
    refine Lib.hid ⟨heap_alloc_new _ _, ⟨World.ownsRow_nil _ _ _ _, World.ownsRow_nil _ _ _ _, World.ownsRow_nil _ _ _ _, ⟨fun q e => (by cases e), fun q e => (by cases e)⟩, ⟨fun q e => (by cases e), fun q e => (by cases e)⟩, ⟨fun q e => (by cases e), fun q e => (by cases e)⟩⟩, hs2.alloc, grownS_alloc hg02 _⟩
  have hp : p < b := by have := hs2.lt; omega
  go_wp2_with fail
  rw [← hb]
  have hWb : W.heap.size ≤ b := by omega
  clear hwd hhg hwd8 hhg8 hs1 hs2 hg1 hg2 hg02 x0 x1 y0 y1 hb hz2'
  go_loopw [4] (fun i wr => ∃ (n : Nat) (v : Value) (ps : List Pc), n ≤ hg ∧ i = .int .i8 (n : Int) ∧ DrI wd hg n 0 ps ∧ (0 < n → 0 < ps.length) ∧ MrS W wr p b wd hg code (k + 4 + n * 100) v ps (.slice none 0 0) [] (.slice none 0 0) []) (fun i _ => hg - (intOf i).toNat)
  case atStart => exact ⟨0, _, [], by omega, rfl, DrI.nil _ _, by omega, DS.out⟩
  case round =>
    clear DS
    obtain ⟨n, v, ps, hn, rfl, hI, hne, hS⟩ := hrel
    obtain ⟨W1, hW1⟩ : ∃ W1, W1 = wr := ⟨_, rfl⟩
    subst hW1
    obtain ⟨c0, c1, c2, c3, c4, f0, f1, f2, f3, f4⟩ := five_cells hS.blk
    have HI := Lib.hid hI
    have HS := Lib.hid hS
    by_cases hlt1 : (n : Int) < hg
    · clear hI hS
      go_wp2_with fail
      go_loopw [5] (fun i wr => ∃ (m : Nat) (v : Value) (ps : List Pc), m ≤ wd ∧ i = .int .i8 (m : Int) ∧ DrI wd hg n m ps ∧ ((0 < n ∨ 0 < m) → 0 < ps.length) ∧ MrS W wr p b wd hg code (k + 4 + n * 100 + m * 18) v ps (.slice none 0 0) [] (.slice none 0 0) []) (fun i _ => wd - (intOf i).toNat)
      case atStart => exact ⟨0, _, _, by omega, rfl, HI.out, fun h => hne (by omega), HS.out⟩
      case round =>
        clear c0 c1 c2 c3 c4 f0 f1 f2 f3 f4 HI HS hne
        obtain ⟨m, v, ps, hm, rfl, hI, hne, hS⟩ := hrel
        obtain ⟨c0, c1, c2, c3, c4, f0, f1, f2, f3, f4⟩ := five_cells hS.blk
        have HI := Lib.hid hI
        have HS := Lib.hid hS
        have hs := hS.src
        have hn24 : ps.length ≤ 24 := by have := hI.len; omega
        obtain ⟨av, capv, hve, -⟩ := own_at hS.own.1
        subst hve
        clear hI hS
        by_cases hlt2 : (m : Int) < wd
        · go_wp2_with fail
          refine (HO.out _ _ hs (by omega) _ (by omega)).mono ?_
          rintro e w3 ⟨v1, rfl, hs3, hg3⟩
          have HS3 := Lib.hid (HS.out.draw hs3 hg3 hp)
          clear hg3 c0 c1 c2 c3 c4 f0 f1 f2 f3 f4 hs
          obtain ⟨c0, c1, c2, c3, c4, f0, f1, f2, f3, f4⟩ := five_cells HS3.out.blk
          have hcase : (v1 = true ∧ 0 < ps.length) ∨ (v1 = true ∧ ps.length = 0) ∨ v1 = false := by
            cases v1 with
            | false => exact .inr (.inr rfl)
            | true =>
              rcases Nat.eq_zero_or_pos ps.length with h | h
              · exact .inr (.inl ⟨rfl, h⟩)
              · exact .inl ⟨rfl, h⟩
          rcases hcase with ⟨rfl, hl0⟩ | ⟨rfl, hl0⟩ | rfl
          · have hl1 : decide ((ps.length : Int) > 0) = true := by simp; omega
            have hl2 : (ps.length : Int) > 0 := by omega
            go_wp2_with fail
            go_roundw
            case rel => exact ⟨m + 1, _, ps, by omega, by go_num, by rw [show ((m + 1 : Nat) : Int) = (m : Int) + 1 by omega]; exact HI.out.skip, fun _ => hl0, HS3.out.le (by omega)⟩
            case measure => simp [intOf]; omega
          all_goals
            try (have hl1 : decide ((ps.length : Int) > 0) = false := by simp; omega)
            try (have hl2 : ¬ (ps.length : Int) > 0 := by omega)
            try clear hl0
            go_wp2_with fail
            refine (HD.out _ _ hs3 (by omega) ⟨m, n⟩ ⟨⟨by show (-128 : Int) ≤ m; omega, by show (m : Int) ≤ 127; omega⟩, ⟨by show (-128 : Int) ≤ n; omega, by show (n : Int) ≤ 127; omega⟩⟩).mono ?_
            rintro e w4 ⟨⟨px, py, pk, pt, pd⟩, rfl, hPx, hPy, k0, k1, t0, t1, d0, d1, hs4, hg4⟩
            simp only at hPx hPy k0 k1 t0 t1 d0 d1
            subst hPx
            subst hPy
            have HS4 := Lib.hid (HS3.out.draw hs4 hg4 hp)
            have HQV := Lib.hid (HS4.out.newb (Nat.le_refl _))
            obtain ⟨q, hq⟩ : ∃ q, q = w4.heap.size := ⟨_, rfl⟩
            obtain ⟨w5, hw5⟩ : ∃ w5, w5 = w4.alloc (.cells #[.int .i8 m, .int .i8 n, .int .i8 pk, .int .i8 pt, .int .i8 pd] 49) := ⟨_, rfl⟩
            have HS5 := Lib.hid (HS4.out.alloc hp (.cells #[.int .i8 m, .int .i8 n, .int .i8 pk, .int .i8 pt, .int .i8 pd] 49))
            have hq5 : w5.heap[q]? = some (.cells #[.int .i8 m, .int .i8 n, .int .i8 pk, .int .i8 pt, .int .i8 pd] 49 (0, 0)) := by rw [hw5, hq]; exact heap_alloc_new _ _
            rw [← hw5] at HS5
            rw [← hq] at HQV
            have HQ5 := Lib.hid hq5
            clear hs4 hg4 hs3 HS3 HS4 hq5 c0 c1 c2 c3 c4 f0 f1 f2 f3 f4
            go_wp2_with fail
            rw [← hw5, ← hq]
            clear hw5 hq
            have hs5 := HS5.out.src
            refine (HO.out _ _ hs5 (by omega) _ (by omega)).mono ?_
            rintro e w6 ⟨v2, rfl, hs6, hg6⟩
            have HS6 := Lib.hid (HS5.out.draw hs6 hg6 hp)
            have hqb := HQV.out.1
            have hq6 := blk_kept HQ5.out hg6 (by simp; omega)
            clear hg6 hs5 HS5 HQ5
            have hWq : W.heap.size ≤ q := by omega
            cases v2 with
            | false =>
              have HS6a := Lib.hid (HS6.out.alloc hp (.cells #[.int .i64 0, .int .i64 4, .int .i64 1] 2))
              have hqa := blk_kept (row := none) hq6 (World.grownBy_alloc w6 (.cells #[.int .i64 0, .int .i64 4, .int .i64 1] 2) none) (by simp)
              have hla : (w6.alloc (.cells #[.int .i64 0, .int .i64 4, .int .i64 1] 2)).heap[w6.heap.size]? = some (.cells #[.int .i64 0, .int .i64 4, .int .i64 1] 2 (0, 0)) := heap_alloc_new _ _
              have hp6 : p < w6.heap.size := hs6.lt
              have HQA := Lib.hid hqa
              have HLA := Lib.hid hla
              clear hqa hla hq6 hs6 HS6
              go_wp2_with fail
              have hsa := HS6a.out.src
              refine (among3_any p _ code _ _ _ _ _ _ hsa hc (by omega) hp6 HLA.out).mono ?_
              rintro e w7 ⟨kk, rfl, hkk, hs7, hg7⟩
              have hkk5 : 0 ≤ kk ∧ kk ≤ 5 := by omega
              have ek : IntKind.i8.wrap kk = kk := by simp [IntKind.wrap, IntKind.bits, IntKind.signed]; omega
              have HS7 := Lib.hid (HS6a.out.draw hs7 hg7 hp)
              have hq7 := blk_kept HQA.out hg7 (by simp; omega)
              obtain ⟨a0, a1, a2, a3, a4, g0, g1, g2, g3, g4⟩ := five_cells hq7
              have HS8 := Lib.hid (HS7.out.set (o := 2) hp hWq HQV.out (.int .i8 kk))
              have hq8 : (w7.setCell ⟨q, 2, none⟩ (.int .i8 kk)).heap[q]? = some (.cells #[.int .i8 m, .int .i8 n, .int .i8 kk, .int .i8 pt, .int .i8 pd] 49 (0, 0)) := set_block hq7 2 (.int .i8 kk)
              have HQ8 := Lib.hid hq8
              clear hq8 hq7 hsa hs7 hg7 HS7 HS6a HLA HQA hkk hp6
              go_wp2_with fail
              have hs8 := HS8.out.src
              refine (HP.out _ _ hs8 (by omega) _ (by omega)).mono ?_
              rintro e w9 ⟨t, rfl, tt0, tt1, hs9, hg9⟩
              have et : IntKind.i8.wrap t = t := by simp [IntKind.wrap, IntKind.bits, IntKind.signed]; omega
              have HS9 := Lib.hid (HS8.out.draw hs9 hg9 hp)
              have hq9 := blk_kept HQ8.out hg9 (by simp; omega)
              clear a0 a1 a2 a3 a4 g0 g1 g2 g3 g4 hs8 hg9 HS8 HQ8 hs9
              obtain ⟨a0, a1, a2, a3, a4, g0, g1, g2, g3, g4⟩ := five_cells hq9
              obtain ⟨c0, c1, c2, c3, c4, f0, f1, f2, f3, f4⟩ := five_cells HS9.out.blk
              have HSA := Lib.hid (HS9.out.set (o := 3) hp hWq HQV.out (.int .i8 t))
              have HOK := Lib.hid (drawn_pc ⟨m, n, kk, t, pd⟩ (c := ⟨m, n⟩) (by show (0 ≤ (m : Int) ∧ (m : Int) ≤ 23) ∧ 0 ≤ (n : Int) ∧ (n : Int) ≤ 23; omega) rfl rfl hkk5.1 hkk5.2 (by show 0 ≤ t; omega) (by show t ≤ 3; omega) d0 d1)
              have hzq := lt_of_block hq9
              clear hq9 HS9
              have HOWN := Lib.hid HSA.out.own.1
              go_wp2_with (at_builtin; go_must (refine wpList_append_lies _ rfl _ _ 25 rfl (b + 1) 49 i0 (.agg #[.int .i8 0, .int .i8 0, .int .i8 0, .int .i8 0, .int .i8 0]) 5 5 Tryz.underlying25 hi hz0 hz1 hz2 rfl (by decide) _ _ _ rfl (own_below HOWN.out (bl_alloc (Below.refl _ _)) (Nat.le_refl _)) ⟨_, 0, none⟩ 1 1 [.int .i8 m, .int .i8 n, .int .i8 kk, .int .i8 t, .int .i8 pd] rfl rfl (sl_newsD _ #[.int .i8 m, .int .i8 n, .int .i8 kk, .int .i8 t, .int .i8 pd] _ _ (by simp)) (Pc.one (⟨m, n, kk, t, pd⟩ : Pc)) (by omega) (by unfold maxLen; omega) (by omega) (by simp; omega) _ rfl ?_); intro gg cap3 wz hown3 hgrow hat3 hlt3; have hbk := HSA.out.after hp hgrow (fun q hq => (HOWN.out.lt q hq).1); obtain ⟨e0, e1, e2, e3, e4, h0, h1, h2, h3, h4⟩ := five_cells hbk)
              go_roundw
              case rel => exact ⟨m + 1, _, ps ++ [(⟨m, n, kk, t, pd⟩ : Pc)], by omega, by go_num, by rw [show ((m + 1 : Nat) : Int) = (m : Int) + 1 by omega]; exact HI.out.push (⟨m, n, kk, t, pd⟩ : Pc) HOK.out.1 HOK.out.2 rfl rfl (by omega) hlt2 (by omega) hlt1, fun _ => by simp, (HSA.out.pushP (P := (⟨m, n, kk, t, pd⟩ : Pc)) hp hWb hgrow hat3 hown3).le (by omega)⟩
              case measure => simp [intOf]; omega
            | true =>
              obtain ⟨a0, a1, a2, a3, a4, g0, g1, g2, g3, g4⟩ := five_cells hq6
              obtain ⟨c0, c1, c2, c3, c4, f0, f1, f2, f3, f4⟩ := five_cells HS6.out.blk
              have HSA := HS6
              have HOK := Lib.hid (drawn_pc ⟨m, n, pk, pt, pd⟩ (c := ⟨m, n⟩) (by show (0 ≤ (m : Int) ∧ (m : Int) ≤ 23) ∧ 0 ≤ (n : Int) ∧ (n : Int) ≤ 23; omega) rfl rfl k0 k1 t0 t1 d0 d1)
              have hzq := lt_of_block hq6
              clear hq6 hs6 HS6
              have HOWN := Lib.hid HSA.out.own.1
              go_wp2_with (at_builtin; go_must (refine wpList_append_lies _ rfl _ _ 25 rfl (b + 1) 49 i0 (.agg #[.int .i8 0, .int .i8 0, .int .i8 0, .int .i8 0, .int .i8 0]) 5 5 Tryz.underlying25 hi hz0 hz1 hz2 rfl (by decide) _ _ _ rfl (own_below HOWN.out (bl_alloc (Below.refl _ _)) (Nat.le_refl _)) ⟨_, 0, none⟩ 1 1 [.int .i8 m, .int .i8 n, .int .i8 pk, .int .i8 pt, .int .i8 pd] rfl rfl (sl_newsD _ #[.int .i8 m, .int .i8 n, .int .i8 pk, .int .i8 pt, .int .i8 pd] _ _ (by simp)) (Pc.one (⟨m, n, pk, pt, pd⟩ : Pc)) (by omega) (by unfold maxLen; omega) (by omega) (by simp; omega) _ rfl ?_); intro gg cap3 wz hown3 hgrow hat3 hlt3; have hbk := HSA.out.after hp hgrow (fun q hq => (HOWN.out.lt q hq).1); obtain ⟨e0, e1, e2, e3, e4, h0, h1, h2, h3, h4⟩ := five_cells hbk)
              go_roundw
              case rel => exact ⟨m + 1, _, ps ++ [(⟨m, n, pk, pt, pd⟩ : Pc)], by omega, by go_num, by rw [show ((m + 1 : Nat) : Int) = (m : Int) + 1 by omega]; exact HI.out.push (⟨m, n, pk, pt, pd⟩ : Pc) HOK.out.1 HOK.out.2 rfl rfl (by omega) hlt2 (by omega) hlt1, fun _ => by simp, (HSA.out.pushP (P := (⟨m, n, pk, pt, pd⟩ : Pc)) hp hWb hgrow hat3 hown3).le (by omega)⟩
              case measure => simp [intOf]; omega
        · have hme : m = wd := by omega
          go_wp2_with fail
          go_roundw
          case rel => exact ⟨n + 1, _, ps, by omega, by go_num, by rw [show ((n + 1 : Nat) : Int) = (n : Int) + 1 by omega]; exact HI.out.row (by omega), fun _ => hne (.inr (by omega)), HS.out.le (by omega)⟩
          case measure => simp [intOf]; omega
    · have hne1 : n = hg := by omega
      have hl0 : 0 < ps.length := hne (by omega)
      obtain ⟨rb, cp, hve, hrb⟩ := own_posD hS.own.1 hl0
      subst hve
      have hps24 : ps.length ≤ 24 := by have := hI.len; omega
      have HVB : Hid (vBd ⟨wd, hg, ps⟩ = true ∧ (Bd.mk wd hg ps).ok) := Lib.hid ⟨hI.vBd (by omega) (by omega) (by omega), ⟨by show (-128 : Int) ≤ wd; omega, by show (wd : Int) ≤ 127; omega⟩, ⟨by show (-128 : Int) ≤ hg; omega, by show (hg : Int) ≤ 127; omega⟩, hI.ok⟩
      have hs := (hS.src).le (show k + 4 + n * 100 ≤ k + 204 by omega)
      have HS' := Lib.hid (hS.le (show k + 4 + n * 100 ≤ k + 204 by omega))
      clear hI hS HS HI hne
      go_wp2_with fail
      refine (HP.out _ _ hs (by omega) _ (by omega)).mono ?_
      rintro e w3 ⟨x, rfl, x0, x1, hs3, hg3⟩
      obtain ⟨m0, hm0, hm01⟩ : ∃ m0 : Nat, IntKind.i64.wrap (1 + x) = (m0 : Int) ∧ 1 ≤ m0 ∧ m0 ≤ 3 := by
        have : IntKind.i64.wrap (1 + x) = 1 + x := wrap_i64' _ (by omega) (by omega)
        exact ⟨(1 + x).toNat, by omega, by omega, by omega⟩
      have HS3 := Lib.hid (HS'.out.draw hs3 hg3 hp)
      clear hs3 hg3 HS' hs c0 c1 c2 c3 c4 f0 f1 f2 f3 f4 x0 x1
      go_wp2_with fail
      clear hm0
      go_loopw [8] (fun i wr => ∃ (m : Nat) (vI : Value) (is : List Po), is.length + m ≤ 3 ∧ (0 < is.length ∨ 0 < m) ∧ i = .int .i64 (m : Int) ∧ Hid (is.Nodup ∧ ∀ q ∈ is, q.ok ∧ poOk ps q = true) ∧ MrS W wr p b wd hg code (k + 210 + (3 - m) * 6) (.slice (some ⟨rb, 0, none⟩) ps.length cp) ps vI is (.slice none 0 0) []) (fun i _ => (intOf i).toNat)
      case atStart => exact ⟨m0, _, [], by simp; omega, .inr (by omega), rfl, Lib.hid ⟨by simp, by simp⟩, HS3.out.le (by omega)⟩
      case round =>
        clear HS3
        obtain ⟨m, vI, is, him, hne, rfl, hisok, hS⟩ := hrel
        obtain ⟨W3, hW3⟩ : ∃ W3, W3 = wr := ⟨_, rfl⟩
        subst hW3
        obtain ⟨ai, ci, hve, -⟩ := own_at hS.own.2.1
        subst hve
        obtain ⟨c0, c1, c2, c3, c4, f0, f1, f2, f3, f4⟩ := five_cells hS.blk
        have hbW := lt_of_block hS.blk
        have hrW : rb < W3.heap.size := hS.own_lt.1 rb rfl
        have HGET : Hid (∀ j (hj : j < ps.length), W3.cell? ⟨rb, j * 5, none⟩ = some (.int .i8 ps[j].x) ∧ W3.cell? ⟨rb, j * 5 + 1, none⟩ = some (.int .i8 ps[j].y)) := Lib.hid (fun j hj => by
          refine ⟨?_, ?_⟩
          · rw [hS.own.1.cellAt (j * 5) (by show j * 5 < ps.length * 5; omega)]
            exact flat_get Pc.len ps j 0 hj (by omega)
          · rw [hS.own.1.cellAt (j * 5 + 1) (by show j * 5 + 1 < ps.length * 5; omega)]
            exact flat_get Pc.len ps j 1 hj (by omega))
        have hs := hS.src
        have HS := Lib.hid hS
        clear hS
        by_cases hm1 : (m : Int) > 0
        · go_wp2_with fail
          go_cut [9] from 78 to 119 (fun s9 wx => ∃ (q j : Nat) (hj : j < ps.length), s9 = .pointer (some ⟨q, 0, none⟩) ∧ W3.heap.size ≤ q ∧ wx.heap[q]? = some (.cells #[.int .i8 ps[j].x, .int .i8 ps[j].y, .int .i8 0] 127 (0, 0)) ∧ SrcAt wx p code (k + 210 + (3 - m) * 6 + 2) ∧ W3.grownBy wx (some p))
          case first =>
            go_region_held3 (fun w' => W3.grownBy w' (some p) ∧ w'.cell? ⟨b, 2, none⟩ = some (.slice (some ⟨rb, 0, none⟩) ps.length cp) ∧ ∀ o, w'.cell? ⟨rb, o, none⟩ = W3.cell? ⟨rb, o, none⟩) ((refine ext_m ?_ c2 hbW (by omega) hrW (by omega); exact (by repeat (first | with_reducible exact grown_refl _ _ | with_reducible assumption | with_reducible apply grownS_drewN | with_reducible apply grownS_drew | with_reducible apply grownS_alloc | (with_reducible refine grown_setNew ?_ (by first | omega | (simp; omega)) _) | with_reducible refine grown_trans ?_ (by with_reducible assumption))))) (first | (go_at_call 67; refine (HP.out _ _ (by repeat (first | with_reducible assumption | with_reducible apply SrcAt.drewN | with_reducible apply SrcAt.drew | with_reducible apply SrcAt.alloc | (with_reducible refine SrcAt.setNew ?_ (by omega) _))) (by omega) _ (by omega)).mono ?_; rintro e w4 ⟨u, rfl, u0, u1, hs4, hg4⟩; have hp4 := hs4.lt; obtain ⟨j, hj, hj2⟩ : ∃ j : Nat, u = (j : Int) ∧ j < ps.length := ⟨u.toNat, by omega, by omega⟩; subst hj; have hj3 : (j : Int) < (ps.length : Int) := (by omega); obtain ⟨q0, q1⟩ := HGET.out j hj2; (try (have hbk := Lib.hid (alloc_keptD hg4 (by omega)); obtain ⟨y0, y1, y2, yf⟩ := three_cells hbk.out)); have hz4 := hg4.size; (try simp [Nat.succ_le_iff] at hz4)))
            all_goals
              go_wp2_with fail
              go_meet
              with_reducible apply fin_port hj2
              · first | with_reducible exact heap_alloc_new _ _ | with_reducible exact three_set3 hbk.out _ _ _
              · omega
              · exact (by repeat (first | with_reducible assumption | with_reducible apply SrcAt.drewN | with_reducible apply SrcAt.drew | with_reducible apply SrcAt.alloc | (with_reducible refine SrcAt.setNew ?_ (by omega) _)))
              · exact (by repeat (first | with_reducible exact grown_refl _ _ | with_reducible assumption | with_reducible apply grownS_drewN | with_reducible apply grownS_drew | with_reducible apply grownS_alloc | (with_reducible refine grown_setNew ?_ (by first | omega | (simp; omega)) _) | with_reducible refine grown_trans ?_ (by with_reducible assumption)))
          case rest =>
            obtain ⟨q, j, hj, rfl, hqW, hblk, hs4, hg4⟩ := hcut
            have HNQ := Lib.hid (HS.out.newb hqW)
            have hbq := HNQ.out.1
            have HS4 := Lib.hid (HS.out.draw hs4 hg4 hp)
            have hWq : W.heap.size ≤ q := by omega
            obtain ⟨m, rfl⟩ : ∃ m', m = m' + 1 := ⟨m - 1, by omega⟩
            clear hg4 hs HS HGET c0 c1 c2 c3 c4 f0 f1 f2 f3 f4
            go_wp2_with fail
            refine (HP.out _ _ hs4 (by omega) _ (by omega)).mono ?_
            rintro e w5 ⟨s, rfl, s0, s1, hs5, hg5⟩
            have s2 : s ≤ 3 := by omega
            have es : IntKind.i8.wrap s = s := by simp [IntKind.wrap, IntKind.bits, IntKind.signed]; omega
            have HS5 := Lib.hid (HS4.out.draw hs5 hg5 hp)
            have hq5 := blk_kept hblk hg5 (by simp; omega)
            obtain ⟨a0, a1, a2, af⟩ := three_cells hq5
            have HS6 := Lib.hid (HS5.out.set (o := 2) hp hWq HNQ.out (.int .i8 s))
            have hq6 : (w5.setCell ⟨q, 2, none⟩ (.int .i8 s)).heap[q]? = some (.cells #[.int .i8 ps[j].x, .int .i8 ps[j].y, .int .i8 s] 127 (0, 0)) := set_block hq5 2 (.int .i8 s)
            obtain ⟨P, hP⟩ : ∃ P : Po, P = ⟨ps[j].x, ps[j].y, s⟩ := ⟨_, rfl⟩
            have HPK : Hid (P.ok ∧ poOk ps P = true) := Lib.hid (by
              have ho := HVB.out.2.2.2 j hj
              rw [hP]
              refine ⟨⟨ho.1.1, ho.1.2, ⟨by show -128 ≤ s; omega, by show s ≤ 127; omega⟩⟩, ?_⟩
              unfold poOk
              simp only [Bool.and_eq_true, decide_eq_true_eq]
              exact ⟨by simp [inB]; omega, fnd_pc ps j hj⟩)
            have hq6' : (w5.setCell ⟨q, 2, none⟩ (.int .i8 s)).heap[q]? = some (.cells #[.int .i8 P.x, .int .i8 P.y, .int .i8 P.s] 127 (0, 0)) := by rw [hP]; exact hq6
            have HQ6 := Lib.hid hq6'
            clear hq5 hq6 hq6' hblk hs4 HS4 HS5 hg5 hs5 hP
            go_wp2_with fail
            clear a0 a1 a2 af es s0 s1 s2
            go_loopw [10, 11] (fun fr i wr => ∃ n : Nat, n ≤ is.length ∧ i = .int .i64 (n : Int) ∧ fr = .bool (decide (P ∉ is.take n)) ∧ wr.heap[q]? = some (.cells #[.int .i8 P.x, .int .i8 P.y, .int .i8 P.s] 127 (0, 0)) ∧ MrS W wr p b wd hg code (k + 210 + (3 - (m + 1)) * 6 + 2 + 2) (.slice (some ⟨rb, 0, none⟩) ps.length cp) ps (.slice ai is.length ci) is (.slice none 0 0) []) (fun _ i _ => is.length - (intOf i).toNat)
            case atStart => exact ⟨0, by omega, rfl, by simp, HQ6.out, HS6.out⟩
            case round =>
              clear HQ6 HS6
              obtain ⟨n, hn, rfl, rfl, hq7, hS7⟩ := hrel
              obtain ⟨W7, hW7⟩ : ∃ W7, W7 = wr := ⟨_, rfl⟩
              subst hW7
              obtain ⟨c0, c1, c2, c3, c4, f0, f1, f2, f3, f4⟩ := five_cells hS7.blk
              obtain ⟨a0, a1, a2, af⟩ := three_cells hq7
              have HS7 := Lib.hid hS7
              have HQ7 := Lib.hid hq7
              by_cases hlt2 : (n : Int) < (is.length : Int)
              · have hlt2' : n < is.length := by omega
                have HDR : Hid (∀ N, MrS W (W7.drewN N) p b wd hg code (k + 210 + (3 - (m + 1)) * 6 + 2 + 2) (.slice (some ⟨rb, 0, none⟩) ps.length cp) ps (.slice ai is.length ci) is (.slice none 0 0) []) := Lib.hid (fun N => HS7.out.draw HS7.out.src.drewN ⟨rfl, rfl, rfl, Nat.le_refl _, fun _ _ _ => rfl⟩ hp)
                rcases dec_cases (P ∉ is.take n) with ⟨g1, k1⟩ | ⟨g1, k1⟩
                · obtain ⟨B, hB⟩ : ∃ B, B = decide (is[n] ≠ P) := ⟨_, rfl⟩
                  have HBB : Hid (decide (P ∉ is.take (n + 1)) = B) := Lib.hid (by
                    rw [hB, List.take_succ_eq_append_getElem hlt2', Bool.eq_iff_iff, decide_eq_true_eq, decide_eq_true_eq, List.mem_append, List.mem_singleton]
                    constructor
                    · intro h e
                      exact h (.inr e.symm)
                    · rintro h (h' | h')
                      · exact k1 h'
                      · exact h h'.symm)
                  have hrun : ∀ W' : World, (binOp .neq 127 (.agg #[.int .i8 is[n].x, .int .i8 is[n].y, .int .i8 is[n].s]) (.agg #[.int .i8 P.x, .int .i8 P.y, .int .i8 P.s])).run Tryz.prog W' = .ok (.bool B) W' := fun W' => by rw [hB]; exact run_neq_po is[n] P W'
                  obtain ⟨rI, cI, hve, hrI⟩ := own_posD hS7.own.2.1 (by show 0 < is.length; omega)
                  cases hve
                  have d0 : W7.cell? ⟨rI, n * 3, none⟩ = some (.int .i8 is[n].x) := by
                    rw [hS7.own.2.1.cellAt (n * 3) (by show n * 3 < is.length * 3; omega)]
                    exact flat_get Po.len is n 0 hlt2' (by omega)
                  have d1 : W7.cell? ⟨rI, n * 3 + 1, none⟩ = some (.int .i8 is[n].y) := by
                    rw [hS7.own.2.1.cellAt (n * 3 + 1) (by show n * 3 + 1 < is.length * 3; omega)]
                    exact flat_get Po.len is n 1 hlt2' (by omega)
                  have d2 : W7.cell? ⟨rI, n * 3 + 2, none⟩ = some (.int .i8 is[n].s) := by
                    rw [hS7.own.2.1.cellAt (n * 3 + 2) (by show n * 3 + 2 < is.length * 3; omega)]
                    exact flat_get Po.len is n 2 hlt2' (by omega)
                  clear hB hS7 hq7 k1
                  rw [g1]
                  go_wp2_with fail
                  go_quiet (fail)
                  go_wp2
                  go_roundw
                  case rel => exact ⟨n + 1, by omega, by go_num, by rw [HBB.out], HQ7.out, HDR.out _⟩
                  case measure => simp [intOf]; omega
                · have HBB : Hid (decide (P ∉ is.take (n + 1)) = false) := Lib.hid (by
                    rw [List.take_succ_eq_append_getElem hlt2', decide_eq_false_iff_not]
                    intro h
                    exact k1 (fun h' => h (List.mem_append_left _ h')))
                  clear hS7 hq7 k1
                  rw [g1]
                  go_wp2_with fail
                  go_quiet (fail)
                  go_wp2
                  go_roundw
                  case rel => exact ⟨n + 1, by omega, by go_num, by rw [HBB.out], HQ7.out, HDR.out _⟩
                  case measure => simp [intOf]; omega
              · have hnl : n = is.length := by omega
                have hzq := lt_of_block hq7
                have HTK : Hid (decide (P ∉ is.take n) = decide (P ∉ is)) := Lib.hid (by rw [List.take_of_length_le (by omega)])
                rw [HTK.out]
                clear hS7 hq7 HTK
                rcases dec_cases (P ∉ is) with ⟨g1, k1⟩ | ⟨g1, k1⟩
                · have HPN := Lib.hid k1
                  have HOWN := Lib.hid HS7.out.own.2.1
                  rw [g1]
                  clear k1
                  go_wp2_with (at_builtin; go_must (refine wpList_append_lies _ rfl _ _ 52 rfl (b + 1) 127 i1 (.agg #[.int .i8 0, .int .i8 0, .int .i8 0]) 3 3 Tryz.underlying52 hi1 hi10 hi11 hi12 rfl (by decide) _ is.length (flat Po.cells is) rfl (own_below HOWN.out (bl_alloc (Below.refl _ _)) (Nat.le_refl _)) ⟨_, 0, none⟩ 1 1 [.int .i8 P.x, .int .i8 P.y, .int .i8 P.s] rfl rfl (sl_newsD _ #[.int .i8 P.x, .int .i8 P.y, .int .i8 P.s] _ _ (by simp)) (Po.one P) (by omega) (by unfold maxLen; omega) (by omega) (by simp; omega) _ rfl ?_); intro gg cap3 wz hown3 hgrow hat3 hlt3; have hbk := HS7.out.after hp hgrow (fun q hq => (HOWN.out.lt q hq).1); obtain ⟨e0, e1, e2, e3, e4, h0, h1, h2, h3, h4⟩ := five_cells hbk)
                  go_roundw
                  case rel =>
                    refine ⟨m, _, is ++ [P], by simp only [List.length_append, List.length_cons, List.length_nil]; omega, .inl (by simp), by go_num, Lib.hid ⟨?_, ?_⟩, (HS7.out.pushI (P := P) hp hWb hgrow hat3 hown3).le (by omega)⟩
                    · rw [List.nodup_append]
                      refine ⟨hisok.out.1, by simp, ?_⟩
                      intro a ha c hc' e
                      rw [List.mem_singleton] at hc'
                      subst hc'
                      subst e
                      exact HPN.out ha
                    · intro r hr
                      rw [List.mem_append, List.mem_singleton] at hr
                      rcases hr with hr | rfl
                      · exact hisok.out.2 r hr
                      · exact HPK.out
                  case measure => simp [intOf]
                · have hpos : 0 < is.length := by
                    have h9 : P ∈ is := by
                      refine Classical.byContradiction fun h => k1 h
                    exact List.length_pos_of_mem h9
                  rw [g1]
                  clear k1
                  go_wp2_with fail
                  go_roundw
                  case rel => exact ⟨m, _, is, by omega, .inl hpos, by go_num, hisok, HS7.out.le (by omega)⟩
                  case measure => simp [intOf]
        · have hil : 0 < is.length := by omega
          have hm0 : m = 0 := by omega
          subst hm0
          go_wp2_with fail
          refine (HP.out _ _ hs (by omega) _ (by omega)).mono ?_
          rintro e w4 ⟨x, rfl, x0, x1, hs4, hg4⟩
          obtain ⟨m0, hm0, hm01⟩ : ∃ m0 : Nat, IntKind.i64.wrap (1 + x) = (m0 : Int) ∧ 1 ≤ m0 ∧ m0 ≤ 2 := by
            have : IntKind.i64.wrap (1 + x) = 1 + x := wrap_i64' _ (by omega) (by omega)
            exact ⟨(1 + x).toNat, by omega, by omega, by omega⟩
          have HS4 := Lib.hid (HS.out.draw hs4 hg4 hp)
          clear hs4 hg4 HS hs c0 c1 c2 c3 c4 f0 f1 f2 f3 f4 x0 x1 HGET hbW hrW hm1
          go_wp2_with fail
          clear hm0
          go_loopw [12] (fun i wr => ∃ (m : Nat) (vO : Value) (os : List Ce), os.length + m ≤ 2 ∧ (0 < os.length ∨ 0 < m) ∧ i = .int .i64 (m : Int) ∧ Hid (∀ c ∈ os, c.ok ∧ outOk ps c = true) ∧ MrS W wr p b wd hg code (k + 240 + (2 - m) * 6) (.slice (some ⟨rb, 0, none⟩) ps.length cp) ps (.slice ai is.length ci) is vO os) (fun i _ => (intOf i).toNat)
          case atStart => exact ⟨m0, _, [], by simp; omega, .inr (by omega), rfl, Lib.hid (by simp), HS4.out.le (by omega)⟩
          case round =>
            clear HS4
            obtain ⟨m, vO, os, hom, hne, rfl, hosok, hS⟩ := hrel
            obtain ⟨W5, hW5⟩ : ∃ W5, W5 = wr := ⟨_, rfl⟩
            subst hW5
            obtain ⟨ao, co, hve, -⟩ := own_at hS.own.2.2.1
            subst hve
            obtain ⟨c0, c1, c2, c3, c4, f0, f1, f2, f3, f4⟩ := five_cells hS.blk
            have HS := Lib.hid hS
            have hs := hS.src
            by_cases hm1 : (m : Int) > 0
            · have hbW := lt_of_block hS.blk
              have hrW : rb < W5.heap.size := hS.own_lt.1 rb rfl
              have HGET : Hid (∀ j (hj : j < ps.length), W5.cell? ⟨rb, j * 5, none⟩ = some (.int .i8 ps[j].x) ∧ W5.cell? ⟨rb, j * 5 + 1, none⟩ = some (.int .i8 ps[j].y)) := Lib.hid (fun j hj => by
                refine ⟨?_, ?_⟩
                · rw [hS.own.1.cellAt (j * 5) (by show j * 5 < ps.length * 5; omega)]
                  exact flat_get Pc.len ps j 0 hj (by omega)
                · rw [hS.own.1.cellAt (j * 5 + 1) (by show j * 5 + 1 < ps.length * 5; omega)]
                  exact flat_get Pc.len ps j 1 hj (by omega))
              have HRB : Hid (∀ (Y : World) (row : Option Nat), W5.grownBy Y row → row ≠ some rb → ∀ o, Y.cell? ⟨rb, o, none⟩ = W5.cell? ⟨rb, o, none⟩) := Lib.hid (fun Y row h1 h2 o => World.cell?_of_block (a := ⟨rb, o, none⟩) (h1.block rb hrW (fun e => h2 e.symm)))
              obtain ⟨m, rfl⟩ : ∃ m', m = m' + 1 := ⟨m - 1, by omega⟩
              clear hS
              go_wp2_with fail
              refine wp_region_T 0 14 (fun w' => w'.cell? ⟨b, 4, none⟩ = some (.slice ao os.length co) ∧ w'.cell? ⟨b, 2, none⟩ = some (.slice (some ⟨rb, 0, none⟩) ps.length cp) ∧ ∀ o, w'.cell? ⟨rb, o, none⟩ = W5.cell? ⟨rb, o, none⟩) (by kernel_rfl) ⟨c4, c2, fun _ => rfl⟩ (fun hHeld => ?_)
              have hgd : W5.grownBy W5.drew (some p) := ⟨rfl, rfl, rfl, Nat.le_refl _, fun _ _ _ => rfl⟩
              have HSY := Lib.hid (HS.out.draw HS.out.src.drew hgd hp)
              clear HS hs c0 c1 c2 c3 c4 f0 f1 f2 f3 f4
              (refine' wpAnyT_take 12 0 (oi := ?oi1) (v := ?v1) ?hi1 (by kernel_rfl) (by kernel_rfl) (by kernel_rfl) (by kernel_rfl) (by kernel_rfl) (by kernel_rfl) ?hQ1 ?hy1 (by assumption) ?rest1; (case hi1 => simp only [List.getElem?_toArray, List.getElem?_cons_zero, List.getElem?_cons_succ]; rfl); (case hQ1 => exact fun _ _ _ h => h); (case hy1 => refine Or.inl ⟨by rfl, ?_⟩; intro wz hSw; (try dsimp only at hSw); go_simp; try with_reducible rfl); try simp only [Act.put, List.setIfInBounds_toArray, List.set_cons_zero, List.set_cons_succ])
              (refine' wpAnyT_take 12 1 (oi := ?oi2) (v := ?v2) ?hi2 (by kernel_rfl) (by kernel_rfl) (by kernel_rfl) (by kernel_rfl) (by kernel_rfl) (by kernel_rfl) ?hQ2 ?hy2 (by assumption) ?rest2; (case hi2 => simp only [List.getElem?_toArray, List.getElem?_cons_zero, List.getElem?_cons_succ]; rfl); (case hQ2 => exact fun _ _ _ h => h); (case hy2 => refine Or.inl ⟨by rfl, ?_⟩; intro wz hSw; (try dsimp only at hSw); go_simp; try with_reducible rfl); try simp only [Act.put, List.setIfInBounds_toArray, List.set_cons_zero, List.set_cons_succ])
              (refine' wpAnyT_take 12 2 (oi := ?oi3) (v := ?v3) ?hi3 (by kernel_rfl) (by kernel_rfl) (by kernel_rfl) (by kernel_rfl) (by kernel_rfl) (by kernel_rfl) ?hQ3 ?hy3 (by assumption) ?rest3; (case hi3 => simp only [List.getElem?_toArray, List.getElem?_cons_zero, List.getElem?_cons_succ]; rfl); (case hQ3 => exact fun _ _ _ h => h); (case hy3 => refine Or.inl ⟨by rfl, ?_⟩; intro wz hSw; (try dsimp only at hSw); go_simp; try with_reducible rfl); try simp only [Act.put, List.setIfInBounds_toArray, List.set_cons_zero, List.set_cons_succ])
              (refine' wpAnyT_take 12 3 (oi := ?oi4) (v := ?v4) ?hi4 (by kernel_rfl) (by kernel_rfl) (by kernel_rfl) (by kernel_rfl) (by kernel_rfl) (by kernel_rfl) ?hQ4 ?hy4 (by assumption) ?rest4; (case hi4 => simp only [List.getElem?_toArray, List.getElem?_cons_zero, List.getElem?_cons_succ]; rfl); (case hQ4 => exact fun _ _ _ h => h); (case hy4 => refine Or.inl ⟨by rfl, ?_⟩; intro wz hSw; (try dsimp only at hSw); go_simp; try with_reducible rfl); try simp only [Act.put, List.setIfInBounds_toArray, List.set_cons_zero, List.set_cons_succ])
              (refine' wpAnyT_take 12 4 (oi := ?oi5) (v := ?v5) ?hi5 (by kernel_rfl) (by kernel_rfl) (by kernel_rfl) (by kernel_rfl) (by kernel_rfl) (by kernel_rfl) ?hQ5 ?hy5 (by assumption) ?rest5; (case hi5 => simp only [List.getElem?_toArray, List.getElem?_cons_zero, List.getElem?_cons_succ]; rfl); (case hQ5 => exact fun _ _ _ h => h); (case hy5 => refine Or.inl ⟨by rfl, ?_⟩; intro wz hSw; (try dsimp only at hSw); go_simp; try with_reducible rfl); try simp only [Act.put, List.setIfInBounds_toArray, List.set_cons_zero, List.set_cons_succ])
              (refine' wpAnyT_take 12 5 (oi := ?oi6) (v := ?v6) ?hi6 (by kernel_rfl) (by kernel_rfl) (by kernel_rfl) (by kernel_rfl) (by kernel_rfl) (by kernel_rfl) ?hQ6 ?hy6 (by assumption) ?rest6; (case hi6 => simp only [List.getElem?_toArray, List.getElem?_cons_zero, List.getElem?_cons_succ]; rfl); (case hQ6 => exact fun _ _ _ h => h); (case hy6 => refine Or.inl ⟨by rfl, ?_⟩; intro wz hSw; (try dsimp only at hSw); go_simp; try with_reducible rfl); try simp only [Act.put, List.setIfInBounds_toArray, List.set_cons_zero, List.set_cons_succ])
              (refine' wpAnyT_take 12 6 (oi := ?oi7) (v := ?v7) ?hi7 (by kernel_rfl) (by kernel_rfl) (by kernel_rfl) (by kernel_rfl) (by kernel_rfl) (by kernel_rfl) ?hQ7 ?hy7 (by assumption) ?rest7; (case hi7 => simp only [List.getElem?_toArray, List.getElem?_cons_zero, List.getElem?_cons_succ]; rfl); (case hQ7 => exact fun _ _ _ h => h); (case hy7 => refine Or.inl ⟨by rfl, ?_⟩; intro wz hSw; (try dsimp only at hSw); go_simp; try with_reducible rfl); try simp only [Act.put, List.setIfInBounds_toArray, List.set_cons_zero, List.set_cons_succ])
              refine wpAnyT_ready (rs := [7]) (by kernel_rfl) (by simp) ?_
              (refine' AllReadyT.cons (o := ?o12) ?ho12 (fun K hK => ?step12) AllReadyT.nil; (case ho12 => simp only [List.getElem?_toArray, List.getElem?_cons_zero, List.getElem?_cons_succ]; rfl))
              go_simp
              have hsy := HSY.out.src
              refine (HP.out _ _ hsy (by omega) _ (by omega)).mono ?_
              rintro e Y1 ⟨u, rfl, u0, u1, hs1, hg1⟩
              obtain ⟨j, hj, hj2⟩ : ∃ j : Nat, u = (j : Int) ∧ j < ps.length := ⟨u.toNat, by omega, by omega⟩
              subst hj
              have hj3 : (j : Int) < (ps.length : Int) := by omega
              have HS1 := Lib.hid (HSY.out.draw hs1 hg1 hp)
              have hg51 := grown_trans hgd hg1
              obtain ⟨c0, c1, c2, c3, c4, f0, f1, f2, f3, f4⟩ := five_cells HS1.out.blk
              refine hK.out _ _ (fun _ _ => ⟨c4, c2, HRB.out _ _ hg51 (by simp; omega)⟩) (fun hHd => ?_)
              have hHeld := hHd (by decide) (by decide)
              clear hHd hK K c0 c1 c2 c3 c4 f0 f1 f2 f3 f4 hs1 hg1 HSY hsy hgd
              try simp only [Act.put, List.setIfInBounds_toArray, List.set_cons_zero, List.set_cons_succ]
              obtain ⟨q0, q1⟩ := HGET.out j hj2
              (refine' wpAnyT_take 12 8 (oi := ?oi8) (v := ?v8) ?hi8 (by kernel_rfl) (by kernel_rfl) (by kernel_rfl) (by kernel_rfl) (by kernel_rfl) (by kernel_rfl) ?hQ8 ?hy8 (by assumption) ?rest8; (case hi8 => simp only [List.getElem?_toArray, List.getElem?_cons_zero, List.getElem?_cons_succ]; rfl); (case hQ8 => exact fun _ _ _ h => h); (case hy8 => refine Or.inl ⟨by rfl, ?_⟩; intro wz hSw; (try dsimp only at hSw); go_simp; try with_reducible rfl); try simp only [Act.put, List.setIfInBounds_toArray, List.set_cons_zero, List.set_cons_succ])
              (refine' wpAnyT_take 12 9 (oi := ?oi9) (v := ?v9) ?hi9 (by kernel_rfl) (by kernel_rfl) (by kernel_rfl) (by kernel_rfl) (by kernel_rfl) (by kernel_rfl) ?hQ9 ?hy9 (by assumption) ?rest9; (case hi9 => simp only [List.getElem?_toArray, List.getElem?_cons_zero, List.getElem?_cons_succ]; rfl); (case hQ9 => exact fun _ _ _ h => h); (case hy9 => refine Or.inl ⟨by rfl, ?_⟩; intro wz hSw; (try dsimp only at hSw); go_simp; try with_reducible rfl); try simp only [Act.put, List.setIfInBounds_toArray, List.set_cons_zero, List.set_cons_succ])
              (refine' wpAnyT_take 12 10 (oi := ?oi10) (v := ?v10) ?hi10 (by kernel_rfl) (by kernel_rfl) (by kernel_rfl) (by kernel_rfl) (by kernel_rfl) (by kernel_rfl) ?hQ10 ?hy10 (by assumption) ?rest10; (case hi10 => simp only [List.getElem?_toArray, List.getElem?_cons_zero, List.getElem?_cons_succ]; rfl); (case hQ10 => exact fun _ _ _ h => h); (case hy10 => refine Or.inl ⟨by rfl, ?_⟩; intro wz hSw; (try dsimp only at hSw); go_simp; try with_reducible rfl); try simp only [Act.put, List.setIfInBounds_toArray, List.set_cons_zero, List.set_cons_succ])
              refine wpAnyT_ready (rs := [11]) (by kernel_rfl) (by simp) ?_
              (refine' AllReadyT.cons (o := ?o13) ?ho13 (fun K hK => ?step13) AllReadyT.nil; (case ho13 => simp only [List.getElem?_toArray, List.getElem?_cons_zero, List.getElem?_cons_succ]; rfl))
              go_simp
              obtain ⟨P, hP⟩ : ∃ P : Ce, P = ⟨ps[j].x, ps[j].y⟩ := ⟨_, rfl⟩
              have HPK : Hid (P.ok ∧ outOk ps P = true) := Lib.hid (by
                have ho := HVB.out.2.2.2 j hj2
                rw [hP]
                refine ⟨⟨ho.1.1, ho.1.2⟩, ?_⟩
                unfold outOk
                rw [decide_eq_true_eq]
                exact fnd_pc ps j hj2)
              have hPx : ps[j].x = P.x := by rw [hP]
              have hPy : ps[j].y = P.y := by rw [hP]
              rw [hPx, hPy]
              have HS2 := Lib.hid (HS1.out.alloc hp (.cells #[.int .i8 P.x, .int .i8 P.y] 47))
              have hla := heap_alloc_new Y1 (.cells #[.int .i8 P.x, .int .i8 P.y] 47)
              have hg52 := grownS_alloc hg51 (.cells #[.int .i8 P.x, .int .i8 P.y] 47)
              obtain ⟨c0, c1, c2, c3, c4, f0, f1, f2, f3, f4⟩ := five_cells HS2.out.blk
              refine hK.out _ _ (fun _ _ => ⟨c4, c2, HRB.out _ _ hg52 (by simp; omega)⟩) (fun hHd => ?_)
              have hHeld := hHd (by decide) (by decide)
              clear hHd hK K c0 c1 c2 c3 c4 f0 f1 f2 f3 f4 hP hPx hPy q0 q1
              try simp only [Act.put, List.setIfInBounds_toArray, List.set_cons_zero, List.set_cons_succ]
              refine wpAnyT_ready (rs := [12]) (by kernel_rfl) (by simp) ?_
              (refine' AllReadyT.cons (o := ?o14) ?ho14 (fun K hK => ?step14) AllReadyT.nil; (case ho14 => simp only [List.getElem?_toArray, List.getElem?_cons_zero, List.getElem?_cons_succ]; rfl))
              have hown0 := HS1.out.own.2.2.1
              have hbY := lt_of_block HS1.out.blk
              refine step_append_lies _ (by rfl) _ _ _ (by rfl) (b + 1) 47 i2 _ 2 2 Tryz.underlying53 hi2 hi20 hi21 hi22 rfl (by omega) (.slice ao os.length co) os.length (flat Ce.cells os) (by rfl) (own_below hown0 (bl_alloc (Below.refl _ _)) (Nat.le_refl _)) ⟨Y1.heap.size, 0, none⟩ 1 1 [.int .i8 P.x, .int .i8 P.y] (by rfl) (by rfl) (World.news_of_block (cs := #[.int .i8 P.x, .int .i8 P.y]) (t := 47) (fr := (0, 0)) hla) (Ce.one P) (by omega) (by unfold maxLen; omega) (by omega) (by simp; omega) _ rfl ?_
              intro gg cap3 Y3 hown3 hgrow hat3 hlt3
              have hbk := HS1.out.after hp hgrow (fun q hq => (hown0.lt q hq).1)
              obtain ⟨c0, c1, c2, c3, c4, f0, f1, f2, f3, f4⟩ := five_cells hbk
              have hrb3 : ∀ o, Y3.cell? ⟨rb, o, none⟩ = W5.cell? ⟨rb, o, none⟩ := fun o => by
                have hne : rb < (Y1.alloc (.cells #[.int .i8 P.x, .int .i8 P.y] 47)).heap.size := Nat.lt_of_lt_of_le hrW hg52.size
                rw [World.cell?_of_block (a := ⟨rb, o, none⟩) (hgrow.block rb hne (HS1.out.own.2.2.2.2.1.1 rb rfl))]
                exact HRB.out _ _ hg52 (by simp; omega) o
              refine hK.out _ _ (fun _ _ => ⟨c4, c2, hrb3⟩) (fun hHd => ?_)
              have hHeld := hHd (by decide) (by decide)
              clear hHd hK K hrb3
              try simp only [Act.put, List.setIfInBounds_toArray, List.set_cons_zero, List.set_cons_succ]
              (refine' wpAnyT_take 12 13 (oi := ?oi11) (v := ?v11) ?hi11 (by kernel_rfl) (by kernel_rfl) (by kernel_rfl) (by kernel_rfl) (by kernel_rfl) (by kernel_rfl) ?hQ11 ?hy11 (by assumption) ?rest11; (case hi11 => simp only [List.getElem?_toArray, List.getElem?_cons_zero, List.getElem?_cons_succ]; rfl); (case hQ11 => exact fun _ _ _ h => h); (case hy11 => refine Or.inl ⟨by rfl, ?_⟩; intro wz hSw; (try dsimp only at hSw); go_simp; try with_reducible rfl); try simp only [Act.put, List.setIfInBounds_toArray, List.set_cons_zero, List.set_cons_succ])
              refine wpAnyT_ready (rs := [14]) (by kernel_rfl) (by simp) ?_
              (refine' AllReadyT.cons (o := ?o15) ?ho15 (fun K hK => ?step15) AllReadyT.nil; (case ho15 => simp only [List.getElem?_toArray, List.getElem?_cons_zero, List.getElem?_cons_succ]; rfl))
              go_simp
              refine hK.out _ _ (fun _ h => absurd h (by decide)) (fun _ => ?_)
              clear hK K hHeld
              try simp only [Act.put, List.setIfInBounds_toArray, List.set_cons_zero, List.set_cons_succ]
              refine wpAnyT_done (by kernel_rfl) ?_ _
              have HSF := Lib.hid (HS1.out.pushO (P := P) hp hWb hgrow hat3 hown3)
              clear c0 c1 c2 c3 c4 f0 f1 f2 f3 f4 hbk hown3 hgrow hat3 hlt3 hown0 HS1 HS2 hla hg52 hg51
              go_wp2_with fail
              go_roundw
              case rel =>
                refine ⟨m, _, os ++ [P], by simp only [List.length_append, List.length_cons, List.length_nil]; omega, .inl (by simp), by go_num, Lib.hid ?_, HSF.out.le (by omega)⟩
                intro c hc'
                rw [List.mem_append, List.mem_singleton] at hc'
                rcases hc' with hc' | rfl
                · exact hosok.out c hc'
                · exact HPK.out
              case measure => simp [intOf]
            · have hol : 0 < os.length := by omega
              have hq := blk_kept HWq.out hS.grown (by simp; omega)
              obtain ⟨d0, d1, d2, d3, d4, g0, g1, g2, g3, g4⟩ := five_cells hq
              go_wp2_with fail
              have hh := five_set hq (.int .i8 wd) (.int .i8 hg) (.slice (some ⟨rb, 0, none⟩) ps.length cp) (.slice ai is.length ci) (.slice ao os.length co)
              refine bodyPost_ret (v := mcv wd hg (.slice (some ⟨rb, 0, none⟩) ps.length cp) (.slice ai is.length ci) (.slice ao os.length co)) (results_cell_row Tryz.results66 _ _ w.heap.size 55 _ (0, 0) _ rfl hh Tryz.underlying55 rfl (by kernel_rfl)) rfl ⟨(wd : Int), (hg : Int), .slice (some ⟨rb, 0, none⟩) ps.length cp, .slice ai is.length ci, .slice ao os.length co, rfl, ps, is, os, ?_, ?_, by omega, ?_, ?_, ?_⟩
              · have h1 := HVB.out.1
                unfold vMc inB
                simp only [Bool.and_eq_true, decide_eq_true_eq, List.all_eq_true]
                exact ⟨⟨⟨⟨h1, by show ps.length ≤ 60; omega⟩, by show (1 : Int) ≤ is.length; omega, by show (is.length : Int) ≤ 6; omega⟩, by show (1 : Int) ≤ os.length; omega, by show (os.length : Int) ≤ 8; omega⟩, ⟨fun q hq => (hisok.out.2 q hq).2, hisok.out.1⟩, fun c hc' => (hosok.out c hc').2⟩
              · exact ⟨HVB.out.2, fun q hq => (hisok.out.2 _ (List.getElem_mem hq)).1, fun q hq => (hosok.out _ (List.getElem_mem hq)).1⟩
              · have hwb : w.heap.size < b + 1 := by omega
                have h9 := HS.out.own
                have kp : ∀ (Y : World) (o : Nat) (u : Value), OwnM Y (b + 1) (.slice (some ⟨rb, 0, none⟩) ps.length cp) (.slice ai is.length ci) (.slice ao os.length co) ⟨⟨wd, hg, ps⟩, is, os⟩ → OwnM (Y.setCell ⟨w.heap.size, o, none⟩ u) (b + 1) (.slice (some ⟨rb, 0, none⟩) ps.length cp) (.slice ai is.length ci) (.slice ao os.length co) ⟨⟨wd, hg, ps⟩, is, os⟩ := fun Y o u hY => hY.kept (grown_set1 Y w.heap.size o u) (fun g e => by cases e; exact .inl hwb)
                have h10 := kp _ 4 (.slice ao os.length co) (kp _ 3 (.slice ai is.length ci) (kp _ 2 (.slice (some ⟨rb, 0, none⟩) ps.length cp) (kp _ 1 (.int .i8 hg) (kp _ 0 (.int .i8 wd) h9))))
                exact ⟨own_mono h10.1 (by omega), own_mono h10.2.1 (by omega), own_mono h10.2.2.1 (by omega), h10.2.2.2⟩
              · have hs9 := hs.le (show k + 240 + (2 - m) * 6 ≤ k + 1000 by omega)
                exact (by repeat (first | with_reducible assumption | with_reducible apply SrcAt.drewN | with_reducible apply SrcAt.drew | with_reducible apply SrcAt.alloc | (with_reducible refine SrcAt.setNew ?_ (by omega) _)))
              · have hgA := grown_trans HWg.out HS.out.grown
                exact (by repeat (first | with_reducible exact grown_refl _ _ | with_reducible assumption | with_reducible apply grownS_drewN | with_reducible apply grownS_drew | with_reducible apply grownS_alloc | (with_reducible refine grown_setNew ?_ (by first | omega | (simp; omega)) _) | with_reducible refine grown_trans ?_ (by with_reducible assumption)))
end Go.Proofs.YtmeefmoblkiebaaGreat
/- Contracts: the board and the pushes that the laws draw. -/
namespace Go.Proofs.YtmeefmoblkiebaaGreat
open Go.RowKit
set_option linter.unusedVariables false
set_option linter.unusedSimpArgs false
set_option maxHeartbeats 400000
set_option maxRecDepth 100000
theorem below_of_grown {a w w' : World} {p : Nat} (h : Below a.heap.size a w) (hg : w.grownBy w' (some p)) (hp : a.heap.size ≤ p) : Below a.heap.size a w' := bl_grown h hg (fun k e => by cases e; exact hp)
theorem a2Board_any (a : Option Addr) (cap : Nat) (code : List Int) (w : World) (h : SlAt w.heap.size w a (flat U8c code)) (hc : BytesOk code) :
    Calls Tryz.prog 7 #[.slice a code.length cap] w fun e w' => ∃ (wd hg : Int) (v : Value), e = .returned (bdv wd hg v) ∧ ∃ ps : List Pc, vBd ⟨wd, hg, ps⟩ = true ∧ (Bd.mk wd hg ps).ok ∧ ps.length ≤ 24 ∧ w'.ownsRow w.heap.size 49 5 v ps.length (flat Pc.cells ps) ∧ Below w.heap.size w w' := by
  obtain ⟨W, hW⟩ : ∃ W, W = w.alloc (.cells #[.int .i8 0, .int .i8 0, .slice none 0 0] 27) := ⟨_, rfl⟩
  have hWs : w.heap.size < W.heap.size := by rw [hW]; simp
  have hWb : Below w.heap.size w W := by rw [hW]; exact bl_alloc (Below.refl _ _)
  have hWq : W.heap[w.heap.size]? = some (.cells #[.int .i8 0, .int .i8 0, .slice none 0 0] 27 (0, 0)) := by rw [hW]; exact heap_alloc_new _ _
  have HF := Lib.hid (l00From_any a cap code W ((h.below hWb (Nat.le_refl _)).mono (Nat.le_of_lt hWs)))
  have HWb := Lib.hid hWb
  have HWq := Lib.hid hWq
  clear hWb hWq
  go_enter Tryz.func7, Tryz.ntmps7
  go_wp2_with fail
  rw [← hW]
  clear hW
  refine HF.out.mono ?_
  rintro e w1 ⟨rfl, hs1, hb1⟩
  have HD := Lib.hid (l01Drawn_any W.heap.size code 0 w1 hs1 hc (by omega))
  have HB1 := Lib.hid hb1
  clear hs1 hb1
  go_wp2_with fail
  refine HD.out.mono ?_
  rintro e w2 ⟨wd, hg, v, rfl, ps, hv, hok, hln, hown, -, hg2⟩
  obtain ⟨av, capv, rfl, -⟩ := own_at hown
  have hz1 := HB1.out.size
  have hq1 : w1.heap[w.heap.size]? = _ := (HB1.out.block w.heap.size hWs).trans HWq.out
  have hq2 := blk_kept hq1 hg2 (by simp; omega)
  obtain ⟨d0, d1, d2, df⟩ := three_cells hq2
  have hb2 := below_of_grown (HWb.out.trans (HB1.out.mono (Nat.le_of_lt hWs))) hg2 (Nat.le_of_lt hWs)
  clear hq1
  go_wp2_with fail
  have hh := set_block (set_block (set_block hq2 0 (.int .i8 wd)) 1 (.int .i8 hg)) 2 (.slice av ps.length capv)
  have hk : ∀ q, (Value.slice av ps.length capv).ownBlock = some q → some q ≠ some w.heap.size := fun q hq e => by have := (hown.lt q hq).1; simp at e; omega
  refine bodyPost_ret (v := bdv wd hg (.slice av ps.length capv)) (results_cell_row Tryz.results7 _ _ w.heap.size 27 _ (0, 0) _ rfl hh Tryz.underlying27 rfl (by kernel_rfl)) rfl ⟨wd, hg, .slice av ps.length capv, rfl, ps, hv, hok, hln, ?_, (by repeat (first | with_reducible exact Below.refl _ _ | with_reducible assumption | with_reducible apply bl_drewN | with_reducible apply bl_drew | with_reducible apply bl_alloc | (with_reducible refine bl_set ?_ (by first | (simp; done) | (simp; omega)) _) | with_reducible refine bl_trans ?_ (by with_reducible assumption)))⟩
  exact own_mono (own_kept (own_kept (own_kept hown (grown_set1 _ _ 0 _) hk) (grown_set1 _ _ 1 _) hk) (grown_set1 _ _ 2 _) hk) (by omega)
theorem a2Pushes_any (a : Option Addr) (cap : Nat) (code : List Int) (wd hg : Int) (s : Value) (ps : List Pc) (w : World) (h : SlAt w.heap.size w a (flat U8c code)) (hc : BytesOk code) (hps : PV w s ps) (hok : (Bd.mk wd hg ps).ok) (hn : ps.length ≤ 1000) :
    Calls Tryz.prog 8 #[.slice a code.length cap, bdv wd hg s] w fun e w' => ∃ v : Value, e = .returned v ∧ ∃ qs : List Pu, vPus ⟨wd, hg, ps⟩ qs = true ∧ PusOk qs ∧ qs.length ≤ 3 ∧ w'.ownsRow w.heap.size 89 4 v qs.length (flat Pu.cells qs) ∧ Below w.heap.size w w' := by
  obtain ⟨ap, capp, rfl, hps⟩ := hps
  obtain ⟨W, hW⟩ : ∃ W, W = w.alloc (.cells #[.int .i8 wd, .int .i8 hg, .slice ap ps.length capp] 27) := ⟨_, rfl⟩
  have hWs : w.heap.size < W.heap.size := by rw [hW]; simp
  have hWb : Below w.heap.size w W := by rw [hW]; exact bl_alloc (Below.refl _ _)
  have hWq : W.heap[w.heap.size]? = some (.cells #[.int .i8 wd, .int .i8 hg, .slice ap ps.length capp] 27 (0, 0)) := by rw [hW]; exact heap_alloc_new _ _
  have HF := Lib.hid (l00From_any a cap code W ((h.below hWb (Nat.le_refl _)).mono (Nat.le_of_lt hWs)))
  have HWb := Lib.hid hWb
  have HWq := Lib.hid hWq
  clear hWb hWq
  go_enter Tryz.func8, Tryz.ntmps8
  go_wp2_with fail
  rw [← hW]
  clear hW
  refine HF.out.mono ?_
  rintro e w1 ⟨rfl, hs1, hb1⟩
  have hq1 : w1.heap[w.heap.size]? = _ := (hb1.block w.heap.size hWs).trans HWq.out
  have hlt1 := hs1.lt
  have hb01 := HWb.out.trans (hb1.mono (Nat.le_of_lt hWs))
  obtain ⟨d0, d1, d2, df⟩ := three_cells hq1
  have hB : BdP w1 W.heap.size w.heap.size ⟨wd, hg, ps⟩ := ⟨hWs, hlt1, ap, capp, ⟨d0, d1, d2⟩, (hps.below hb01 (Nat.le_refl _)).mono (Nat.le_of_lt hWs)⟩
  have HD := Lib.hid (l02Drawn_any W.heap.size w.heap.size ⟨wd, hg, ps⟩ hok hn code 0 w1 hs1 hB hc (by omega))
  have HB1 := Lib.hid hb01
  have hz1 := hb1.size
  clear hs1 hb1 hb01 hB d0 d1 d2 df hq1
  go_wp2_with fail
  refine HD.out.mono ?_
  rintro e w2 ⟨v, rfl, qs, hpu, hql, hown, -, hg2⟩
  obtain ⟨g1, g2⟩ := PuD.vPus hpu (by omega)
  have hb2 := below_of_grown HB1.out hg2 (Nat.le_of_lt hWs)
  have hown2 := own_mono (base := w.heap.size) hown (by omega)
  go_wp2
  go_ret
  exact ⟨v, rfl, qs, g1, g2, hql, hown2, hb2⟩
end Go.Proofs.YtmeefmoblkiebaaGreat
/- Contracts: equal lists of numbers, a number in a list (the laws' helpers). -/
namespace Go.Proofs.YtmeefmoblkiebaaGreat
open Go.RowKit
set_option linter.unusedVariables false
set_option linter.unusedSimpArgs false
set_option maxHeartbeats 400000
set_option maxRecDepth 100000
theorem l00Same_any {B : Nat} (a a' : Option Addr) (cap cap' : Nat) (ps qs : List Int) (w : World) (hps : SlAt B w a (flat N64_cells ps)) (hqs : SlAt B w a' (flat N64_cells qs)) (hB : B ≤ w.heap.size) (hn : ps.length ≤ 10000000) (hn' : qs.length ≤ 10000000) :
    Calls Tryz.prog 60 #[.slice a ps.length cap, .slice a' qs.length cap'] w fun e w' => e = .returned (.bool (decide (ps = qs))) ∧ Below w.heap.size w w' := by
  by_cases hl : ps.length = qs.length
  · have hl2 : ((ps.length : Int) != (qs.length : Int)) = false := by simp [hl]
    have Hl := Lib.hid hl; clear hl
    go_enter Tryz.func60, Tryz.ntmps60
    go_wp2
    go_loopw [5] (fun i wr => ∃ k : Nat, k ≤ ps.length ∧ i = .int .i64 k ∧ ps.take k = qs.take k ∧ Below w.heap.size w wr) (fun i _ => ps.length - (intOf i).toNat)
    case atStart => exact ⟨0, by omega, rfl, by simp, Below.refl _ _⟩
    case round =>
      obtain ⟨k, hk, rfl, heq, hb⟩ := hrel
      have Heq := Lib.hid heq; clear heq
      by_cases hlt : k < ps.length
      · have hlt' : k < qs.length := by rw [← Hl.out]; exact hlt
        obtain ⟨b, off, rfl, hbl, hat⟩ := n64s_get (hps.below hb hB) hlt
        obtain ⟨b', off', rfl, hbl', hat'⟩ := n64s_get (hqs.below hb hB) hlt'
        unfold N64At at hat hat'
        rw [Nat.mul_one] at hat hat'
        cases g3 : (ps[k] != qs[k]) with
        | false =>
          have G2 : Hid (ps[k] = qs[k]) := Lib.hid (by simpa using g3)
          go_wp2_with fail
          go_quiet (fail)
          go_wp2
          go_roundw
          case rel => exact ⟨k + 1, by omega, by go_num, by rw [List.take_succ_eq_append_getElem hlt, List.take_succ_eq_append_getElem hlt', Heq.out, G2.out], (by repeat (first | with_reducible exact Below.refl _ _ | with_reducible assumption | with_reducible apply bl_drewN | with_reducible apply bl_drew | with_reducible apply bl_alloc | (with_reducible refine bl_set ?_ (by first | (simp; done) | (simp; omega)) _) | with_reducible refine bl_trans ?_ (by with_reducible assumption)))⟩
          case measure => simp [intOf]; omega
        | true =>
          have G2 : Hid (ps ≠ qs) := Lib.hid (by
            intro h
            subst h
            simp at g3)
          go_wp2_with fail
          go_quiet (fail)
          go_wp2
          go_ret
          have hne := G2.out
          exact ⟨by simp [hne], (by repeat (first | with_reducible exact Below.refl _ _ | with_reducible assumption | with_reducible apply bl_drewN | with_reducible apply bl_drew | with_reducible apply bl_alloc | (with_reducible refine bl_set ?_ (by first | (simp; done) | (simp; omega)) _) | with_reducible refine bl_trans ?_ (by with_reducible assumption)))⟩
      · go_wp2
        go_ret
        have hne : ps = qs := by
          have := Heq.out
          rwa [List.take_of_length_le (by omega), List.take_of_length_le (by have := Hl.out; omega)] at this
        exact ⟨by simp [hne], (by repeat (first | with_reducible exact Below.refl _ _ | with_reducible assumption | with_reducible apply bl_drewN | with_reducible apply bl_drew | with_reducible apply bl_alloc | (with_reducible refine bl_set ?_ (by first | (simp; done) | (simp; omega)) _) | with_reducible refine bl_trans ?_ (by with_reducible assumption)))⟩
  · have hl2 : ((ps.length : Int) != (qs.length : Int)) = true := by simp; omega
    have Hl := Lib.hid hl; clear hl
    go_enter Tryz.func60, Tryz.ntmps60
    go_wp2
    go_ret
    have hne : ps ≠ qs := fun h => Hl.out (by rw [h])
    exact ⟨by simp [hne], (by repeat (first | with_reducible exact Below.refl _ _ | with_reducible assumption | with_reducible apply bl_drewN | with_reducible apply bl_drew | with_reducible apply bl_alloc | (with_reducible refine bl_set ?_ (by first | (simp; done) | (simp; omega)) _) | with_reducible refine bl_trans ?_ (by with_reducible assumption)))⟩
theorem a2Same_any (v v' : Value) (ps qs : List Int) (w : World) (h : ∃ a cap, v = .slice a ps.length cap ∧ SlAt w.heap.size w a (flat N64_cells ps)) (h' : ∃ a cap, v' = .slice a qs.length cap ∧ SlAt w.heap.size w a (flat N64_cells qs)) (hn : ps.length ≤ 10000000) (hn' : qs.length ≤ 10000000) :
    Calls Tryz.prog 17 #[v, v'] w fun e w' => e = .returned (.bool (decide (ps = qs))) ∧ Below w.heap.size w w' := by
  obtain ⟨a, cap, rfl, hs⟩ := h
  obtain ⟨a', cap', rfl, hs'⟩ := h'
  go_enter Tryz.func17, Tryz.ntmps17
  go_wp2_with fail
  refine (l00Same_any a a' cap cap' ps qs w hs hs' (Nat.le_refl _) hn hn').mono ?_
  rintro e w1 ⟨rfl, hb⟩
  go_wp2
  go_ret
  exact ⟨rfl, hb⟩
theorem l07Has_any {B : Nat} (a : Option Addr) (cap : Nat) (ps : List Int) (n : Int) (w : World) (hps : SlAt B w a (flat N64_cells ps)) (hn : ps.length ≤ 10000000) :
    Calls Tryz.prog 61 #[.slice a ps.length cap, .int .i64 n] w fun e w' => e = .returned (.bool (decide (n ∈ ps))) ∧ w = w' := by
  go_enter Tryz.func61, Tryz.ntmps61
  go_wp2
  go_loopw [5] (fun i wr => ∃ k : Nat, k ≤ ps.length ∧ i = .int .i64 k ∧ Hid (n ∉ ps.take k) ∧ wr = w) (fun i _ => ps.length - (intOf i).toNat)
  case atStart => exact ⟨0, by omega, rfl, Lib.hid (by simp), rfl⟩
  case round =>
    obtain ⟨k, hk, rfl, hni, rfl⟩ := hrel
    by_cases hlt : k < ps.length
    · obtain ⟨b, off, rfl, hbl, hat⟩ := n64s_get hps hlt
      unfold N64At at hat
      rw [Nat.mul_one] at hat
      obtain ⟨x, hx⟩ : ∃ x, x = ps[k] := ⟨_, rfl⟩
      rw [← hx] at hat
      cases g3 : (x == n) with
      | true =>
        have G : Hid (decide (n ∈ ps) = true) := Lib.hid (by
          have e : x = n := by simpa using g3
          rw [decide_eq_true_eq, ← e, hx]
          exact List.getElem_mem hlt)
        clear hx
        go_wp2
        go_ret
        exact ⟨by rw [G.out]; rfl, rfl⟩
      | false =>
        have G : Hid (n ∉ ps.take (k + 1)) := Lib.hid (by
          have e : ¬ x = n := by simpa using g3
          rw [List.take_succ_eq_append_getElem hlt, List.mem_append, List.mem_singleton]
          rintro (h | h)
          · exact hni.out h
          · exact e (by rw [hx]; exact h.symm))
        clear hx hni
        go_wp2
        go_roundw
        case rel => exact ⟨k + 1, by omega, by go_num, G, trivial⟩
        case measure => simp [intOf]; omega
    · have G : Hid (decide (n ∈ ps) = false) := Lib.hid (by
        have := hni.out
        rw [List.take_of_length_le (by omega)] at this
        exact decide_eq_false this)
      clear hni
      go_wp2
      go_ret
      exact ⟨by rw [G.out]; rfl, rfl⟩
theorem a2Has_any (v : Value) (ps : List Int) (n : Int) (w : World) (h : ∃ a cap, v = .slice a ps.length cap ∧ ∃ B, SlAt B w a (flat N64_cells ps)) (hn : ps.length ≤ 10000000) :
    Calls Tryz.prog 18 #[v, .int .i64 n] w fun e w' => e = .returned (.bool (decide (n ∈ ps))) ∧ w = w' := by
  obtain ⟨a, cap, rfl, B, hs⟩ := h
  go_enter Tryz.func18, Tryz.ntmps18
  go_wp2_with fail
  refine (l07Has_any a cap ps n w hs hn).mono ?_
  rintro e w1 ⟨rfl, rfl⟩
  go_wp2
  go_ret
  exact ⟨rfl, rfl⟩
end Go.Proofs.YtmeefmoblkiebaaGreat
/- Contracts: the machine and the numbers of the laws. -/
namespace Go.Proofs.YtmeefmoblkiebaaGreat
open Go.RowKit
set_option linter.unusedVariables false
set_option linter.unusedSimpArgs false
set_option maxHeartbeats 400000
set_option maxRecDepth 100000
theorem p6Machine_any (a : Option Addr) (cap : Nat) (code : List Int) (w : World) (h : SlAt w.heap.size w a (flat U8c code)) (hc : BytesOk code) :
    Calls Tryz.prog 23 #[.slice a code.length cap] w fun e w' => ∃ (wd hg : Int) (vP vI vO : Value), e = .returned (mcv wd hg vP vI vO) ∧ ∃ (ps : List Pc) (is : List Po) (os : List Ce), vMc ⟨⟨wd, hg, ps⟩, is, os⟩ = true ∧ (Mc.mk ⟨wd, hg, ps⟩ is os).ok ∧ is.length ≤ 3 ∧ OwnM w' w.heap.size vP vI vO ⟨⟨wd, hg, ps⟩, is, os⟩ ∧ Below w.heap.size w w' := by
  obtain ⟨W, hW⟩ : ∃ W, W = w.alloc (.cells #[.int .i8 0, .int .i8 0, .slice none 0 0, .slice none 0 0, .slice none 0 0] 55) := ⟨_, rfl⟩
  have hWs : w.heap.size < W.heap.size := by rw [hW]; simp
  have hWb : Below w.heap.size w W := by rw [hW]; exact bl_alloc (Below.refl _ _)
  have hWq : W.heap[w.heap.size]? = some (.cells #[.int .i8 0, .int .i8 0, .slice none 0 0, .slice none 0 0, .slice none 0 0] 55 (0, 0)) := by rw [hW]; exact heap_alloc_new _ _
  have HF := Lib.hid (l00From_any a cap code W ((h.below hWb (Nat.le_refl _)).mono (Nat.le_of_lt hWs)))
  have HWb := Lib.hid hWb
  have HWq := Lib.hid hWq
  clear hWb hWq
  go_enter Tryz.func23, Tryz.ntmps23
  go_wp2_with fail
  rw [← hW]
  clear hW
  refine HF.out.mono ?_
  rintro e w1 ⟨rfl, hs1, hb1⟩
  have HD := Lib.hid (l03Drawn_any W.heap.size code 0 w1 hs1 hc (by omega))
  have HB1 := Lib.hid hb1
  clear hs1 hb1
  go_wp2_with fail
  refine HD.out.mono ?_
  rintro e w2 ⟨wd, hg, vP, vI, vO, rfl, ps, is, os, hv, hok, hln, hown, -, hg2⟩
  obtain ⟨aP, cP, rfl, -⟩ := own_at hown.1
  obtain ⟨aI, cI, rfl, -⟩ := own_at hown.2.1
  obtain ⟨aO, cO, rfl, -⟩ := own_at hown.2.2.1
  have hz1 := HB1.out.size
  have hq1 : w1.heap[w.heap.size]? = _ := (HB1.out.block w.heap.size hWs).trans HWq.out
  have hq2 := blk_kept hq1 hg2 (by simp; omega)
  obtain ⟨d0, d1, d2, d3, d4, g0, g1, g2, g3, g4⟩ := five_cells hq2
  have hb2 := below_of_grown (HWb.out.trans (HB1.out.mono (Nat.le_of_lt hWs))) hg2 (Nat.le_of_lt hWs)
  have HOWN := Lib.hid hown
  clear hq1 hown
  go_wp2_with fail
  have hh := five_set hq2 (.int .i8 wd) (.int .i8 hg) (.slice aP ps.length cP) (.slice aI is.length cI) (.slice aO os.length cO)
  refine bodyPost_ret (v := mcv wd hg (.slice aP ps.length cP) (.slice aI is.length cI) (.slice aO os.length cO)) (results_cell_row Tryz.results23 _ _ w.heap.size 55 _ (0, 0) _ rfl hh Tryz.underlying55 rfl (by kernel_rfl)) rfl ⟨wd, hg, .slice aP ps.length cP, .slice aI is.length cI, .slice aO os.length cO, rfl, ps, is, os, hv, hok, hln, ?_, (by repeat (first | with_reducible exact Below.refl _ _ | with_reducible assumption | with_reducible apply bl_drewN | with_reducible apply bl_drew | with_reducible apply bl_alloc | (with_reducible refine bl_set ?_ (by first | (simp; done) | (simp; omega)) _) | with_reducible refine bl_trans ?_ (by with_reducible assumption)))⟩
  have hwb : w.heap.size < w1.heap.size := by omega
  have kp : ∀ (Y : World) (o : Nat) (u : Value), OwnM Y w1.heap.size (.slice aP ps.length cP) (.slice aI is.length cI) (.slice aO os.length cO) ⟨⟨wd, hg, ps⟩, is, os⟩ → OwnM (Y.setCell ⟨w.heap.size, o, none⟩ u) w1.heap.size (.slice aP ps.length cP) (.slice aI is.length cI) (.slice aO os.length cO) ⟨⟨wd, hg, ps⟩, is, os⟩ := fun Y o u hY => hY.kept (grown_set1 Y w.heap.size o u) (fun g e => by cases e; exact .inl hwb)
  have h10 := kp _ 4 (.slice aO os.length cO) (kp _ 3 (.slice aI is.length cI) (kp _ 2 (.slice aP ps.length cP) (kp _ 1 (.int .i8 hg) (kp _ 0 (.int .i8 wd) HOWN.out))))
  exact ⟨own_mono h10.1 (by omega), own_mono h10.2.1 (by omega), own_mono h10.2.2.1 (by omega), h10.2.2.2⟩
theorem p6Pick_any (a : Option Addr) (cap : Nat) (code : List Int) (n : Int) (hn : n ≤ 1000000) (w : World) (h : SlAt w.heap.size w a (flat U8c code)) (hc : BytesOk code) :
    Calls Tryz.prog 24 #[.slice a code.length cap, .int .i64 n] w fun e w' => ∃ v : Int, e = .returned (.int .i64 v) ∧ 0 ≤ v ∧ v < max n 1 ∧ Below w.heap.size w w' := by
  have HF := Lib.hid (l00From_any a cap code w h)
  go_enter Tryz.func24, Tryz.ntmps24
  go_wp2_with fail
  refine HF.out.mono ?_
  rintro e w1 ⟨rfl, hs1, hb1⟩
  have HD := Lib.hid (pick_any w.heap.size code 0 w1 n hs1 hc (by omega) hn)
  have HB1 := Lib.hid hb1
  clear hs1 hb1
  go_wp2_with fail
  refine HD.out.mono ?_
  rintro e w2 ⟨v, rfl, v0, v1, -, hg2⟩
  have hb2 := below_of_grown HB1.out hg2 (Nat.le_refl _)
  go_wp2
  go_ret
  exact ⟨v, rfl, v0, v1, hb2⟩
theorem f6big_any (a : Option Addr) (n cap : Nat) (w : World) :
    Calls Tryz.prog 22 #[.slice a n cap] w fun e w' => e = .returned (.bool (decide (4096 < n))) ∧ w = w' := by
  rcases dec_cases ((n : Int) > 4096) with ⟨g1, g2⟩ | ⟨g1, g2⟩
  · have h1 : decide (4096 < n) = true := by simp; omega
    go_enter Tryz.func22, Tryz.ntmps22
    go_wp2
    go_ret
    exact ⟨by first | (rw [h1]; rfl) | rfl, rfl⟩
  · have h1 : decide (4096 < n) = false := by simp; omega
    go_enter Tryz.func22, Tryz.ntmps22
    go_wp2
    go_ret
    exact ⟨by first | (rw [h1]; rfl) | rfl, rfl⟩
theorem sameList_any (v v' : Value) (ps qs : List Int) (w : World) (h : ∃ a cap, v = .slice a ps.length cap ∧ SlAt w.heap.size w a (flat N64_cells ps)) (h' : ∃ a cap, v' = .slice a qs.length cap ∧ SlAt w.heap.size w a (flat N64_cells qs)) (hn : ps.length ≤ 10000000) (hn' : qs.length ≤ 10000000) :
    Calls Tryz.prog 28 #[v, v'] w fun e w' => e = .returned (.bool (decide (ps = qs))) ∧ Below w.heap.size w w' := by
  obtain ⟨a, cap, rfl, hs⟩ := h
  obtain ⟨a', cap', rfl, hs'⟩ := h'
  go_enter Tryz.func28, Tryz.ntmps28
  go_wp2_with fail
  refine (l00Same_any a a' cap cap' ps qs w hs hs' (Nat.le_refl _) hn hn').mono ?_
  rintro e w1 ⟨rfl, hb⟩
  go_wp2
  go_ret
  exact ⟨rfl, hb⟩
theorem l00Has_any {B : Nat} (a : Option Addr) (cap : Nat) (ps : List Int) (n : Int) (w : World) (hps : SlAt B w a (flat N64_cells ps)) (hn : ps.length ≤ 10000000) :
    Calls Tryz.prog 81 #[.slice a ps.length cap, .int .i64 n] w fun e w' => e = .returned (.bool (decide (n ∈ ps))) ∧ w = w' := by
  go_enter Tryz.func81, Tryz.ntmps81
  go_wp2
  go_loopw [5] (fun i wr => ∃ k : Nat, k ≤ ps.length ∧ i = .int .i64 k ∧ Hid (n ∉ ps.take k) ∧ wr = w) (fun i _ => ps.length - (intOf i).toNat)
  case atStart => exact ⟨0, by omega, rfl, Lib.hid (by simp), rfl⟩
  case round =>
    obtain ⟨k, hk, rfl, hni, rfl⟩ := hrel
    by_cases hlt : k < ps.length
    · obtain ⟨b, off, rfl, hbl, hat⟩ := n64s_get hps hlt
      unfold N64At at hat
      rw [Nat.mul_one] at hat
      obtain ⟨x, hx⟩ : ∃ x, x = ps[k] := ⟨_, rfl⟩
      rw [← hx] at hat
      cases g3 : (x == n) with
      | true =>
        have G : Hid (decide (n ∈ ps) = true) := Lib.hid (by
          have e : x = n := by simpa using g3
          rw [decide_eq_true_eq, ← e, hx]
          exact List.getElem_mem hlt)
        clear hx
        go_wp2
        go_ret
        exact ⟨by rw [G.out]; rfl, rfl⟩
      | false =>
        have G : Hid (n ∉ ps.take (k + 1)) := Lib.hid (by
          have e : ¬ x = n := by simpa using g3
          rw [List.take_succ_eq_append_getElem hlt, List.mem_append, List.mem_singleton]
          rintro (h | h)
          · exact hni.out h
          · exact e (by rw [hx]; exact h.symm))
        clear hx hni
        go_wp2
        go_roundw
        case rel => exact ⟨k + 1, by omega, by go_num, G, trivial⟩
        case measure => simp [intOf]; omega
    · have G : Hid (decide (n ∈ ps) = false) := Lib.hid (by
        have := hni.out
        rw [List.take_of_length_le (by omega)] at this
        exact decide_eq_false this)
      clear hni
      go_wp2
      go_ret
      exact ⟨by rw [G.out]; rfl, rfl⟩
theorem hasNumber_any (v : Value) (ps : List Int) (n : Int) (w : World) (h : ∃ a cap, v = .slice a ps.length cap ∧ ∃ B, SlAt B w a (flat N64_cells ps)) (hn : ps.length ≤ 10000000) :
    Calls Tryz.prog 32 #[v, .int .i64 n] w fun e w' => e = .returned (.bool (decide (n ∈ ps))) ∧ w = w' := by
  obtain ⟨a, cap, rfl, B, hs⟩ := h
  go_enter Tryz.func32, Tryz.ntmps32
  go_wp2_with fail
  refine (l00Has_any a cap ps n w hs hn).mono ?_
  rintro e w1 ⟨rfl, rfl⟩
  go_wp2
  go_ret
  exact ⟨rfl, rfl⟩
end Go.Proofs.YtmeefmoblkiebaaGreat
/- Bytes out of the claim's open values. -/
namespace Go.Proofs.YtmeefmoblkiebaaGreat
open Go.RowKit
def okU8 (n : Int) : Prop := 0 ≤ n ∧ n ≤ 255
theorem conv_u8 (cs : List Value) (h : Fits [.u8] cs) : ∃ p : Int, okU8 p ∧ cs = U8c p := by
  obtain ⟨a, _, rfl, h0, h⟩ := fits_cons h
  obtain rfl := fits_nil h
  refine ⟨a, ?_, rfl⟩
  have := bounds_u8 h0
  exact ⟨by omega, by omega⟩
end Go.Proofs.YtmeefmoblkiebaaGreat
