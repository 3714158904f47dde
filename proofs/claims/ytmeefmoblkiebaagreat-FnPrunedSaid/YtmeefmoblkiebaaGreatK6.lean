import Derived.Test.YtmeefmoblkiebaaGreatK5
import Derived.StillTailTactics
import Derived.Deep.RegionHeld3
import Derived.Deep.CutRange
import Derived.BigQuiet
import Derived.Deep.RegionLaw
import Derived.Maps.AppendAt
/- Falls of which each follows from the others exist: plain law; and what follows for runOf. -/
namespace Go.Proofs.YtmeefmoblkiebaaGreat
open Go.RowKit
set_option linter.unusedVariables false
set_option linter.unusedSimpArgs false
set_option maxHeartbeats 400000
set_option maxRecDepth 100000
theorem bestH_iff (xs : List Ht) (m : Ht) : bestH xs = some m ↔ m ∈ xs ∧ ∀ x ∈ xs, ltH x m = false := by
  constructor
  · intro h; exact ⟨bestH_mem xs m h, bestH_le xs m h⟩
  · rintro ⟨h1, h2⟩
    cases hb : bestH xs with
    | none => rw [bestH_none xs hb] at h1; cases h1
    | some k =>
      have h3 := bestH_le xs k hb m h1
      have h4 := h2 k (bestH_mem xs k hb)
      rw [ltH_total h4 h3]
theorem dueC_move (ps : List Pc) (pl : List Pu) (fs gs : List Fa) (hf : fs.length = ps.length) (hg : gs.length = ps.length) (hd : ∀ j, j < ps.length → 1 ≤ (ps.getD j default).d) (T : Int)
    (hs : ∀ k, k < ps.length → (fs.getD k default).t ≠ -1 → (fs.getD k default).t < T → gs.getD k default = fs.getD k default) (i : Nat) (m : Ht) (hm : m.1 ≤ T) (h : m ∈ dueC ps pl fs i) : m ∈ dueC ps pl gs i := by
  rw [cand_mem] at h ⊢
  refine ⟨h.1, h.2.imp id ?_⟩
  rintro ⟨s, hs4, h3⟩
  obtain ⟨k, hk, -, h4, h5, h6⟩ := candN1_some ps fs i s m h3 hf
  have h7 := hd k hk
  exact ⟨s, hs4, h6 gs hg (hs k hk h4 (by omega))⟩
/-- The falls ahead of a tick. -/
def stepT (ps : List Pc) (pl : List Pu) (T : Int) (fs : List Fa) : List Fa :=
  (List.range ps.length).map fun i => if (fs.getD i default).t ≠ -1 then fs.getD i default else if (due ps pl fs i).t = T then due ps pl fs i else faOf none
theorem stepT_at (ps : List Pc) (pl : List Pu) (T : Int) (fs : List Fa) (i : Nat) (hi : i < ps.length) : (stepT ps pl T fs).getD i default = if (fs.getD i default).t ≠ -1 then fs.getD i default else if (due ps pl fs i).t = T then due ps pl fs i else faOf none := by
  unfold stepT
  rw [List.getD_eq_getElem?_getD, List.getElem?_eq_getElem (by simpa using hi)]
  simp
structure PartT (ps : List Pc) (pl : List Pu) (T : Int) (fs : List Fa) : Prop where
  len : fs.length = ps.length
  fell : ∀ i, i < ps.length → (fs.getD i default).t ≠ -1 → 0 ≤ (fs.getD i default).t ∧ (fs.getD i default).t < T ∧ fs.getD i default = due ps pl fs i
  stay : ∀ i, i < ps.length → (fs.getD i default).t = -1 → fs.getD i default = faOf none ∧ ∀ m ∈ dueC ps pl fs i, T ≤ m.1
theorem partT_zero (ps : List Pc) (pl : List Pu) (hp : ∀ p ∈ pl, 0 ≤ p.t) : PartT ps pl 0 (List.replicate ps.length (faOf none)) := by
  have hat : ∀ i, i < ps.length → (List.replicate ps.length (faOf none)).getD i default = faOf none := by
    intro i hi
    rw [List.getD_eq_getElem?_getD, List.getElem?_eq_getElem (by simpa using hi)]
    simp
  refine ⟨by simp, ?_, ?_⟩
  · intro i hi h
    rw [hat i hi] at h
    exact absurd rfl h
  · intro i hi h
    refine ⟨hat i hi, ?_⟩
    intro m hm
    rw [cand_mem] at hm
    rcases hm.2 with h1 | ⟨s, hs, h1⟩
    · exact candP_tick ps pl hp i m h1
    · obtain ⟨k, hk, -, h4, -, -⟩ := candN1_some ps _ i s m h1 (by simp)
      rw [hat k hk] at h4
      exact absurd rfl h4
theorem partT_step (ps : List Pc) (pl : List Pu) (hd : ∀ j, j < ps.length → 1 ≤ (ps.getD j default).d) (T : Int) (hT : 0 ≤ T) (fs : List Fa) (h : PartT ps pl T fs) : PartT ps pl (T + 1) (stepT ps pl T fs) := by
  have hl : (stepT ps pl T fs).length = ps.length := by simp [stepT]
  have hat := stepT_at ps pl T fs
  -- both ways up to T
  have fwd : ∀ i m, m.1 ≤ T → m ∈ dueC ps pl fs i → m ∈ dueC ps pl (stepT ps pl T fs) i := by
    intro i m hm hx
    refine dueC_move ps pl fs _ h.len hl hd T ?_ i m hm hx
    intro k hk h1 _
    rw [hat k hk, if_pos h1]
  have bwd : ∀ i m, m.1 ≤ T → m ∈ dueC ps pl (stepT ps pl T fs) i → m ∈ dueC ps pl fs i := by
    intro i m hm hx
    refine dueC_move ps pl _ fs hl h.len hd T ?_ i m hm hx
    intro k hk h1 h2
    rw [hat k hk] at h1 h2 ⊢
    by_cases h3 : (fs.getD k default).t ≠ -1
    · rw [if_pos h3]
    · rw [if_neg h3] at h1 h2
      by_cases h4 : (due ps pl fs k).t = T
      · rw [if_pos h4] at h2; omega
      · rw [if_neg h4] at h1; exact absurd rfl h1
  have best : ∀ i m, m.1 ≤ T → bestH (dueC ps pl fs i) = some m → bestH (dueC ps pl (stepT ps pl T fs) i) = some m := by
    intro i m hm hb
    rw [bestH_iff] at hb ⊢
    refine ⟨fwd i m hm hb.1, ?_⟩
    intro x hx
    by_cases hxT : x.1 ≤ T
    · exact hb.2 x (bwd i x hxT hx)
    · rw [Bool.eq_false_iff, ne_eq, ltH_iff]; omega
  have dueS : ∀ i, (due ps pl fs i).t ≠ -1 → (due ps pl fs i).t ≤ T → due ps pl (stepT ps pl T fs) i = due ps pl fs i := by
    intro i h1 h2
    unfold due at h1 h2 ⊢
    cases hm : bestH (dueC ps pl fs i) with
    | none => rw [hm] at h1; exact absurd rfl h1
    | some m =>
      rw [hm] at h2
      rw [best i m h2 hm]
  refine ⟨hl, ?_, ?_⟩
  · intro i hi h1
    rw [hat i hi] at h1 ⊢
    by_cases h3 : (fs.getD i default).t ≠ -1
    · obtain ⟨f1, f2, f3⟩ := h.fell i hi h3
      rw [if_pos h3]
      refine ⟨f1, by omega, ?_⟩
      rw [dueS i (by rw [← f3]; exact h3) (by rw [← f3]; omega)]
      exact f3
    · rw [if_neg h3] at h1 ⊢
      by_cases h4 : (due ps pl fs i).t = T
      · rw [if_pos h4]
        refine ⟨by omega, by omega, ?_⟩
        exact (dueS i (by omega) (by omega)).symm
      · rw [if_neg h4] at h1; exact absurd rfl h1
  · intro i hi h1
    rw [hat i hi] at h1 ⊢
    by_cases h3 : (fs.getD i default).t ≠ -1
    · rw [if_pos h3] at h1; exact absurd h1 h3
    · obtain ⟨s1, s2⟩ := h.stay i hi (by omega)
      rw [if_neg h3] at h1 ⊢
      by_cases h4 : (due ps pl fs i).t = T
      · rw [if_pos h4] at h1; omega
      · rw [if_neg h4]
        refine ⟨rfl, ?_⟩
        intro x hx
        by_cases hxT : x.1 ≤ T
        · have h5 := bwd i x hxT hx
          have h6 := s2 x h5
          exfalso
          unfold due at h4
          cases hm : bestH (dueC ps pl fs i) with
          | none => rw [bestH_none _ hm] at h5; cases h5
          | some m =>
            rw [hm] at h4
            have h7 : m.1 ≠ T := h4
            have h8 := s2 m (bestH_mem _ m hm)
            have h9 := bestH_le _ m hm x h5
            rw [Bool.eq_false_iff, ne_eq, ltH_iff] at h9
            omega
        · omega
def atT (ps : List Pc) (pl : List Pu) : Nat → List Fa
  | 0 => List.replicate ps.length (faOf none)
  | T + 1 => stepT ps pl T (atT ps pl T)
theorem atT_part (ps : List Pc) (pl : List Pu) (hd : ∀ j, j < ps.length → 1 ≤ (ps.getD j default).d) (hp : ∀ p ∈ pl, 0 ≤ p.t) : ∀ T : Nat, PartT ps pl T (atT ps pl T)
  | 0 => partT_zero ps pl hp
  | T + 1 => by
    have := partT_step ps pl hd T (by omega) _ (atT_part ps pl hd hp T)
    simpa [atT] using this
theorem atT_keep (ps : List Pc) (pl : List Pu) (i : Nat) (hi : i < ps.length) (T : Nat) (h : ((atT ps pl T).getD i default).t ≠ -1) : ∀ n, (atT ps pl (T + n)).getD i default = (atT ps pl T).getD i default
  | 0 => rfl
  | n + 1 => by
    have ih := atT_keep ps pl i hi T h n
    show (stepT ps pl _ (atT ps pl (T + n))).getD i default = _
    rw [stepT_at _ _ _ _ i hi, if_pos (by rw [ih]; exact h), ih]
theorem atT_end1 (ps : List Pc) (pl : List Pu) (hd : ∀ j, j < ps.length → 1 ≤ (ps.getD j default).d) (hp : ∀ p ∈ pl, 0 ≤ p.t) (i : Nat) (hi : i < ps.length) : ∃ T0, ∀ T, T0 ≤ T → (atT ps pl T).getD i default = (atT ps pl T0).getD i default := by
  by_cases h : ∃ T0, ((atT ps pl T0).getD i default).t ≠ -1
  · obtain ⟨T0, h0⟩ := h
    refine ⟨T0, ?_⟩
    intro T hT
    obtain ⟨n, rfl⟩ := Nat.exists_eq_add_of_le hT
    exact atT_keep ps pl i hi T0 h0 n
  · refine ⟨0, ?_⟩
    intro T _
    have h1 : ∀ T, (atT ps pl T).getD i default = faOf none := by
      intro T
      refine ((atT_part ps pl hd hp T).stay i hi ?_).1
      by_cases h2 : ((atT ps pl T).getD i default).t = -1
      · exact h2
      · exact absurd ⟨T, h2⟩ h
    rw [h1, h1]
theorem atT_end (ps : List Pc) (pl : List Pu) (hd : ∀ j, j < ps.length → 1 ≤ (ps.getD j default).d) (hp : ∀ p ∈ pl, 0 ≤ p.t) : ∀ n, n ≤ ps.length → ∃ T0, ∀ T, T0 ≤ T → ∀ i, i < n → (atT ps pl T).getD i default = (atT ps pl T0).getD i default
  | 0, _ => ⟨0, fun _ _ i hi => absurd hi (by omega)⟩
  | n + 1, hn => by
    obtain ⟨T1, h1⟩ := atT_end ps pl hd hp n (by omega)
    obtain ⟨T2, h2⟩ := atT_end1 ps pl hd hp n (by omega)
    refine ⟨max T1 T2, ?_⟩
    intro T hT i hi
    by_cases hin : i = n
    · subst hin
      rw [h2 T (by omega), h2 (max T1 T2) (by omega)]
    · rw [h1 T (by omega) i (by omega), h1 (max T1 T2) (by omega) i (by omega)]
theorem okFa_exists (ps : List Pc) (pl : List Pu) (hd : ∀ j, j < ps.length → 1 ≤ (ps.getD j default).d) (hp : ∀ p ∈ pl, 0 ≤ p.t) : ∃ fs, okFa ps pl fs := by
  obtain ⟨T0, h0⟩ := atT_end ps pl hd hp ps.length (Nat.le_refl _)
  have P0 := atT_part ps pl hd hp T0
  refine ⟨atT ps pl T0, P0.len, ?_, ?_⟩
  · intro i hi
    by_cases h : ((atT ps pl T0).getD i default).t = -1
    · omega
    · have := P0.fell i hi h; omega
  · intro i hi
    by_cases h : ((atT ps pl T0).getD i default).t = -1
    · rw [(P0.stay i hi h).1]
      have hnil : dueC ps pl (atT ps pl T0) i = [] := by
        apply List.eq_nil_iff_forall_not_mem.2
        intro m hm
        have hP := atT_part ps pl hd hp (max T0 (m.1.toNat + 1))
        have heq : atT ps pl (max T0 (m.1.toNat + 1)) = atT ps pl T0 := by
          apply List.ext_getElem
          · rw [hP.len, P0.len]
          · intro j hj hj2
            have hjp : j < ps.length := by rw [← P0.len]; exact hj2
            have e := h0 (max T0 (m.1.toNat + 1)) (by omega) j hjp
            rw [List.getD_eq_getElem?_getD, List.getElem?_eq_getElem hj, List.getD_eq_getElem?_getD, List.getElem?_eq_getElem hj2] at e
            exact e
        rw [heq] at hP
        have := (hP.stay i hi h).2 m hm
        omega
      unfold due
      rw [hnil]
      rfl
    · exact (P0.fell i hi h).2.2
/-- The falls of a board that is given do follow. -/
theorem runOf_ok (ps : List Pc) (pl : List Pu) (G : Good ps pl) : okFa ps pl (runOf ps pl) := by
  obtain ⟨fs, h⟩ := okFa_exists ps pl G.d1 G.t0
  have := runOf_eq ps pl fs G h
  rw [← this]; exact h
end Go.Proofs.YtmeefmoblkiebaaGreat
/- Pushes that are later by some ticks make all fall later by as many: plain law. -/
namespace Go.Proofs.YtmeefmoblkiebaaGreat
open Go.RowKit
set_option linter.unusedVariables false
set_option linter.unusedSimpArgs false
set_option maxHeartbeats 400000
set_option maxRecDepth 100000
end Go.Proofs.YtmeefmoblkiebaaGreat
/- Steady machines: plain law of FnSteady. -/
namespace Go.Proofs.YtmeefmoblkiebaaGreat
open Go.RowKit
set_option linter.unusedVariables false
set_option linter.unusedSimpArgs false
set_option maxHeartbeats 400000
set_option maxRecDepth 100000
theorem late_good (m : Mc) (r : Nat) (late : List Int) (hv : vMc m = true) (hok : m.ok) (hl : lateOk late) : Good m.bd.ps (mPu m r late) :=
  good_bd m.bd (vMc_parts m hv).1 _ (mPu_ok m hv hok r late hl).2.1
theorem rep_late (n : Nat) (b : Int) (h0 : 0 ≤ b) (h1 : b ≤ 100) : lateOk (List.replicate n b) := by
  intro i
  rw [List.getD_eq_getElem?_getD, List.getElem?_replicate]
  split
  · exact ⟨h0, h1⟩
  · exact ⟨Int.le_refl _, by decide⟩
end Go.Proofs.YtmeefmoblkiebaaGreat
/- Contracts: slices of bool, element for element. -/
namespace Go.Proofs.YtmeefmoblkiebaaGreat
open Go.RowKit
set_option linter.unusedVariables false
set_option linter.unusedSimpArgs false
set_option maxHeartbeats 400000
set_option maxRecDepth 100000
end Go.Proofs.YtmeefmoblkiebaaGreat
/- Contracts: MachineNeeds (both). -/
namespace Go.Proofs.YtmeefmoblkiebaaGreat
open Go.RowKit
set_option linter.unusedVariables false
set_option linter.unusedSimpArgs false
set_option maxHeartbeats 400000
set_option maxRecDepth 100000
theorem quiet_same {P : Program} {f : FuncId} {args : Array Value} {w : World} {n : Nat} {v : Value} (h : Calls P f args (w.drewN n) fun e w' => e = .returned v ∧ w.drewN n = w') : Calls P f args (w.drewN n) fun e w'' => e = .returned v ∧ ∃ m, w'' = w.drewN m :=
  h.mono fun _ _ ⟨he, hm⟩ => ⟨he, n, hm.symm⟩
end Go.Proofs.YtmeefmoblkiebaaGreat
/- Plain words and contracts: l03Least, firstDifferent. -/
namespace Go.Proofs.YtmeefmoblkiebaaGreat
open Go.RowKit
set_option linter.unusedVariables false
set_option linter.unusedSimpArgs false
set_option maxHeartbeats 400000
set_option maxRecDepth 100000
def dfP (xs ys : List Nat) (n r : Nat) : Bool := (List.range n).any (fun i => (xs.getD i 0).testBit r != (ys.getD i 0).testBit r)
theorem dfP_succ (xs ys : List Nat) (n r : Nat) : dfP xs ys (n + 1) r = (dfP xs ys n r || ((xs.getD n 0).testBit r != (ys.getD n 0).testBit r)) := by
  unfold dfP
  rw [List.range_succ, List.any_append]
  simp
def ltAll (xs : List Nat) (K : Nat) : Prop := ∀ i, xs.getD i 0 < K
def dfVal (p : Nat → Bool) (R : Nat) : Int × Int := match (List.range R).find? p with
  | some r => ((r : Int), 0)
  | none => (0, 6)
theorem dfVal_none (p : Nat → Bool) (R : Nat) (h : ∀ r, r < R → p r = false) : dfVal p R = (0, 6) := by
  have : (List.range R).find? p = none := by
    rw [List.find?_eq_none]
    intro x hx
    rw [h x (List.mem_range.1 hx)]
    simp
  unfold dfVal
  rw [this]
theorem dfVal_some (p : Nat → Bool) (R r : Nat) (hr : r < R) (h : ∀ j, j < r → p j = false) (hp : p r = true) : dfVal p R = ((r : Int), 0) := by
  have : (List.range R).find? p = some r := by
    rw [List.find?_range_eq_some]
    exact ⟨hp, by simpa using hr, fun j hj => by rw [h j hj]; rfl⟩
  unfold dfVal
  rw [this]
theorem castN_get (xs : List Nat) (i : Nat) (hi : i < (xs.map (fun (n : Nat) => (n : Int))).length) (h2 : i < xs.length) : (xs.map (fun (n : Nat) => (n : Int)))[i] = ((xs.getD i 0 : Nat) : Int) := by
  rw [List.getElem_map, List.getD_eq_getElem?_getD, List.getElem?_eq_getElem h2]; rfl
theorem firstDifferent_any (xs ys : List Nat) (nn n : Nat) (a a' : Option Addr) (cap cap' : Nat) (w : World) (hn : n ≤ 64) (hnn : nn ≤ 6) (hx : xs.length = n) (hy : ys.length = n) (hxl : ltAll xs 18446744073709551616) (hyl : ltAll ys 18446744073709551616)
    (h : SlAt w.heap.size w a (flat U64_cells (xs.map (fun (n : Nat) => (n : Int))))) (h' : SlAt w.heap.size w a' (flat U64_cells (ys.map (fun (n : Nat) => (n : Int))))) :
    Calls Tryz.prog 91 #[.slice a n cap, .slice a' n cap', .int .i64 nn] w fun e w' => e = .returned (.tuple #[.int .i64 (dfVal (dfP xs ys n) (2 ^ nn)).1, .int .i64 (dfVal (dfP xs ys n) (2 ^ nn)).2]) ∧ Below w.heap.size w w' := by
  have hR64 : 2 ^ nn ≤ 64 := pow_mono2 (b := 6) hnn
  have HRO := Lib.hid (fun w1 => rows_any nn (by omega) w1)
  have HXL := Lib.hid hxl
  have HYL := Lib.hid hyl
  have HXN : Hid ((xs.map (fun (n : Nat) => (n : Int))).length = n) := Lib.hid (by rw [List.length_map, hx])
  have HYN : Hid ((ys.map (fun (n : Nat) => (n : Int))).length = n) := Lib.hid (by rw [List.length_map, hy])
  have HXG := Lib.hid (fun i hi => castN_get xs i hi)
  have HYG := Lib.hid (fun i hi => castN_get ys i hi)
  have HXE := Lib.hid hx
  have HYE := Lib.hid hy
  have HPS := Lib.hid (fun i r => dfP_succ xs ys i r)
  have HPM : Hid (∀ r i, i < n → ((xs.getD i 0).testBit r != (ys.getD i 0).testBit r) = true → dfP xs ys n r = true) := Lib.hid (fun r i hi hb => by
    unfold dfP
    rw [List.any_eq_true]
    exact ⟨i, List.mem_range.2 hi, hb⟩)
  have HP0 : Hid (∀ r, dfP xs ys 0 r = false) := Lib.hid (fun r => rfl)
  obtain ⟨R, hRR⟩ : ∃ R, R = 2 ^ nn := ⟨_, rfl⟩
  rw [← hRR] at HRO hR64 ⊢
  have HN := Lib.hid (dfVal_none (dfP xs ys n) R)
  have HY := Lib.hid (fun r => dfVal_some (dfP xs ys n) R r)
  obtain ⟨res, hres⟩ : ∃ res, res = dfVal (dfP xs ys n) R := ⟨_, rfl⟩
  rw [← hres] at HN ⊢
  simp only [← hres] at HY
  clear hres hx hy hxl hyl hRR
  go_enter Tryz.func91, Tryz.ntmps91
  go_wp2_with (go_at_call 77; refine (HRO.out _).mono ?_; rintro e w' ⟨rfl, rfl⟩)
  go_loopw [12] (fun rx wr => ∃ r : Nat, r ≤ R ∧ rx = .int .i64 r ∧ Hid (∀ j, j < r → dfP xs ys n j = false) ∧ Below w.heap.size w wr) (fun rx _ => R - (intOf rx).toNat)
  case atStart => exact ⟨0, by omega, rfl, Lib.hid (fun j hj => absurd hj (Nat.not_lt_zero _)), Below.refl _ _⟩
  case round =>
    obtain ⟨r, hr, rfl, HF, hb⟩ := hrel
    by_cases hlt : r < R
    · have hrI : (r : Int) < R := by omega
      obtain ⟨W1, hW1⟩ : ∃ W1, W1 = wr := ⟨_, rfl⟩
      subst hW1
      have HB := Lib.hid hb
      clear hb
      go_wp2
      go_loopw [17] (fun ix wi => ∃ i : Nat, i ≤ n ∧ ix = .int .i64 i ∧ Hid (dfP xs ys i r = false) ∧ Below w.heap.size w wi) (fun ix _ => n - (intOf ix).toNat)
      case atStart => exact ⟨0, by omega, rfl, Lib.hid (HP0.out r), HB.out⟩
      case round =>
        obtain ⟨i, hi, rfl, HI, hb⟩ := hrel
        by_cases hlti : i < n
        · have hiI : (i : Int) < n := by omega
          have hkx : i < (xs.map (fun (n : Nat) => (n : Int))).length := by rw [HXN.out]; exact hlti
          have hky : i < (ys.map (fun (n : Nat) => (n : Int))).length := by rw [HYN.out]; exact hlti
          obtain ⟨bx, offx, rfl, hbx, hatx⟩ := u64s_get h hkx
          obtain ⟨bY, offY, rfl, hbY, hatY⟩ := u64s_get h' hky
          unfold U64At at hatx hatY
          rw [Nat.mul_one, HXG.out i hkx (by rw [HXE.out]; exact hlti)] at hatx
          rw [Nat.mul_one, HYG.out i hky (by rw [HYE.out]; exact hlti)] at hatY
          have q0 : wr.cell? ⟨bx, offx + i, none⟩ = some (.int .u64 ((xs.getD i 0 : Nat) : Int)) := by rw [hb.cell (p := ⟨_, _, none⟩) hbx]; exact hatx
          have q1 : wr.cell? ⟨bY, offY + i, none⟩ = some (.int .u64 ((ys.getD i 0 : Nat) : Int)) := by rw [hb.cell (p := ⟨_, _, none⟩) hbY]; exact hatY
          have l1 := HXL.out i
          have l2 := HYL.out i
          have HSK := Lib.hid (HPS.out i r)
          have HYS := Lib.hid (HPM.out r i hlti)
          obtain ⟨X, hX⟩ : ∃ X, X = xs.getD i 0 := ⟨_, rfl⟩
          obtain ⟨Y, hY⟩ : ∃ Y, Y = ys.getD i 0 := ⟨_, rfl⟩
          rw [← hX] at q0 l1 HSK HYS
          rw [← hY] at q1 l2 HSK HYS
          have HB1 := Lib.hid hb
          clear hX hY hatx hatY hkx hky hb
          rcases Bool.eq_false_or_eq_true (X.testBit r) with gx | gx <;> rcases Bool.eq_false_or_eq_true (Y.testBit r) with gy | gy
          · have HI2 : Hid (dfP xs ys (i + 1) r = false) := Lib.hid (by rw [HSK.out, HI.out, gx, gy]; rfl)
            have ge : (!(X.testBit r == Y.testBit r)) = false := by rw [gx, gy]; rfl
            clear gx gy
            go_wp2_with fail
            go_quiet ((go_at_call 142; exact quiet_same (bitU_any _ _ (by assumption) (by omega) _)))
            go_wp2
            go_roundw
            case rel => exact ⟨i + 1, by omega, by go_num, HI2, bl_drewN HB1.out⟩
            case measure => simp [intOf]; omega
          · have HR : Hid (res = ((r : Int), 0)) := Lib.hid (HY.out r hlt HF.out (HYS.out (by rw [gx, gy]; rfl)))
            have ge : (!(X.testBit r == Y.testBit r)) = true := by rw [gx, gy]; rfl
            clear gx gy
            go_wp2_with fail
            go_quiet ((go_at_call 142; exact quiet_same (bitU_any _ _ (by assumption) (by omega) _)))
            go_wp2
            go_ret2
            exact ⟨by rw [HR.out]; rfl, bl_drewN HB1.out⟩
          · have HR : Hid (res = ((r : Int), 0)) := Lib.hid (HY.out r hlt HF.out (HYS.out (by rw [gx, gy]; rfl)))
            have ge : (!(X.testBit r == Y.testBit r)) = true := by rw [gx, gy]; rfl
            clear gx gy
            go_wp2_with fail
            go_quiet ((go_at_call 142; exact quiet_same (bitU_any _ _ (by assumption) (by omega) _)))
            go_wp2
            go_ret2
            exact ⟨by rw [HR.out]; rfl, bl_drewN HB1.out⟩
          · have HI2 : Hid (dfP xs ys (i + 1) r = false) := Lib.hid (by rw [HSK.out, HI.out, gx, gy]; rfl)
            have ge : (!(X.testBit r == Y.testBit r)) = false := by rw [gx, gy]; rfl
            clear gx gy
            go_wp2_with fail
            go_quiet ((go_at_call 142; exact quiet_same (bitU_any _ _ (by assumption) (by omega) _)))
            go_wp2
            go_roundw
            case rel => exact ⟨i + 1, by omega, by go_num, HI2, bl_drewN HB1.out⟩
            case measure => simp [intOf]; omega
        · have hin : Hid (i = n) := Lib.hid (by omega)
          rw [hin.out] at HI
          have hiI : ¬ (i : Int) < n := by omega
          go_wp2
          go_roundw
          case rel => exact ⟨r + 1, by omega, by go_num, Lib.hid (fun j hj => by rcases Nat.lt_succ_iff_lt_or_eq.1 hj with h | h; exact HF.out j h; rw [h]; exact HI.out), hb⟩
          case measure => simp [intOf]; omega
    · have hre : Hid (r = R) := Lib.hid (by omega)
      have HR : Hid (res = (0, 6)) := Lib.hid (HN.out (by rw [← hre.out]; exact HF.out))
      have hrI : ¬ (r : Int) < R := by omega
      go_wp2
      go_ret2
      exact ⟨by rw [HR.out]; rfl, hb⟩
end Go.Proofs.YtmeefmoblkiebaaGreat
/- Contracts: DifferAt (both). -/
namespace Go.Proofs.YtmeefmoblkiebaaGreat
open Go.RowKit
set_option linter.unusedVariables false
set_option linter.unusedSimpArgs false
set_option maxHeartbeats 400000
set_option maxRecDepth 100000
def daSame (ma mb : Mc) : Bool := decide (ma.ins.length = mb.ins.length ∧ ma.outs.length = mb.outs.length)
noncomputable def daVal (ma mb : Mc) : Int × Int := if vMc ma = true ∧ vMc mb = true then (if daSame ma mb = true then dfVal (dfP (mTabs ma) (mTabs mb) ma.outs.length) (mRows ma) else (0, 4)) else (0, 1)
theorem mTabs_lt (m : Mc) : ltAll (mTabs m) (2 ^ mRows m) := by
  intro i
  by_cases h : i < m.outs.length
  · have h1 : (mTabs m).getD i 0 = tabTo (fun r => mOut m r (zeros m.ins.length)) i (mRows m) := by
      rw [List.getD_eq_getElem?_getD]
      simp [mTabs, h]
    rw [h1]
    exact tabTo_lt _ _ _
  · have h1 : (mTabs m).getD i 0 = 0 := by
      rw [List.getD_eq_getElem?_getD, List.getElem?_eq_none (by rw [mTabs_len]; omega)]; rfl
    rw [h1]
    exact Nat.two_pow_pos _
theorem ltAll_mono {xs : List Nat} {a b : Nat} (h : ltAll xs a) (hab : a ≤ b) : ltAll xs b := fun i => Nat.lt_of_lt_of_le (h i) hab
end Go.Proofs.YtmeefmoblkiebaaGreat
/- What is moved does the same: plain law of FnPruned. -/
namespace Go.Proofs.YtmeefmoblkiebaaGreat
open Go.RowKit
set_option linter.unusedVariables false
set_option linter.unusedSimpArgs false
set_option maxHeartbeats 400000
set_option maxRecDepth 100000
def mvC (e s : Int) (c : Ce) : Ce := ⟨c.x + e, c.y + s⟩
def mvPc (e s : Int) (p : Pc) : Pc := ⟨p.x + e, p.y + s, p.k, p.t, p.d⟩
def mvPu (e s : Int) (p : Pu) : Pu := ⟨p.x + e, p.y + s, p.s, p.t⟩
def mvPo (e s : Int) (p : Po) : Po := ⟨p.x + e, p.y + s, p.s⟩
theorem mvC_inj (e s : Int) (c d : Ce) : mvC e s c = mvC e s d ↔ c = d := by
  obtain ⟨a, b⟩ := c
  obtain ⟨a', b'⟩ := d
  unfold mvC
  simp only [Ce.mk.injEq]
  omega
theorem mvPo_inj (e s : Int) (c d : Po) : mvPo e s c = mvPo e s d ↔ c = d := by
  obtain ⟨a, b, x⟩ := c
  obtain ⟨a', b', x'⟩ := d
  unfold mvPo
  simp only [Po.mk.injEq]
  omega
theorem fnd_mv (e s : Int) (c : Ce) (ps : List Pc) : fnd (mvC e s c) (ps.map (mvPc e s)) = fnd c ps := by
  unfold fnd
  rw [List.findIdx?_map]
  have h : ((fun p : Pc => decide (p.at_ = mvC e s c)) ∘ mvPc e s) = fun p : Pc => decide (p.at_ = c) := by
    funext p
    show decide (mvC e s p.at_ = mvC e s c) = _
    rw [decide_eq_decide]
    exact mvC_inj e s p.at_ c
  rw [h]
theorem getD_mv (e s : Int) (ps : List Pc) (i : Nat) (hi : i < ps.length) : (ps.map (mvPc e s)).getD i default = mvPc e s (ps.getD i default) := by
  rw [List.getD_eq_getElem?_getD, List.getD_eq_getElem?_getD, List.getElem?_map, List.getElem?_eq_getElem hi]
  rfl
theorem w8_small (n : Int) (h : -100 ≤ n ∧ n ≤ 100) : w8 n = n := by
  unfold w8
  simp [IntKind.wrap, IntKind.bits, IntKind.signed]
  omega
theorem nxt_mv (e s : Int) (c : Ce) (sd : Int) (he : 0 ≤ e ∧ e ≤ 10) (hs : 0 ≤ s ∧ s ≤ 10) (hc : (0 ≤ c.x ∧ c.x ≤ 23) ∧ 0 ≤ c.y ∧ c.y ≤ 23) : nxt (mvC e s c) sd = mvC e s (nxt c sd) := by
  obtain ⟨x, y⟩ := c
  simp only at hc
  unfold nxt mvC
  simp only
  rw [w8_small (y + s - 1) (by omega), w8_small (x + e + 1) (by omega), w8_small (y + s + 1) (by omega), w8_small (x + e - 1) (by omega), w8_small (y - 1) (by omega), w8_small (x + 1) (by omega), w8_small (y + 1) (by omega), w8_small (x - 1) (by omega)]
  by_cases h0 : sd = 0
  · simp only [if_pos h0, Ce.mk.injEq, and_true, true_and]; omega
  · by_cases h1 : sd = 1
    · simp only [if_neg h0, if_pos h1, Ce.mk.injEq, and_true, true_and]; omega
    · by_cases h2 : sd = 2
      · simp only [if_neg h0, if_neg h1, if_pos h2, Ce.mk.injEq, and_true, true_and]; omega
      · simp only [if_neg h0, if_neg h1, if_neg h2, Ce.mk.injEq, and_true, true_and]; omega
def SmallPs (ps : List Pc) : Prop := ∀ i, i < ps.length → (0 ≤ (ps.getD i default).x ∧ (ps.getD i default).x ≤ 23) ∧ 0 ≤ (ps.getD i default).y ∧ (ps.getD i default).y ≤ 23
section
variable {e s : Int} {ps : List Pc} {pl : List Pu}
theorem candN1_mv (he : 0 ≤ e ∧ e ≤ 10) (hs : 0 ≤ s ∧ s ≤ 10) (hp : SmallPs ps) (fs : List Fa) (i : Nat) (hi : i < ps.length) (sd : Int) : candN1 (ps.map (mvPc e s)) fs i sd = candN1 ps fs i sd := by
  have h1 : ((ps.map (mvPc e s)).getD i default).at_ = mvC e s (ps.getD i default).at_ := by rw [getD_mv e s ps i hi]; rfl
  have h2 : fnd (nxt ((ps.map (mvPc e s)).getD i default).at_ sd) (ps.map (mvPc e s)) = fnd (nxt (ps.getD i default).at_ sd) ps := by
    rw [h1, nxt_mv e s _ sd he hs (hp i hi), fnd_mv]
  unfold candN1
  simp only [h2]
  by_cases hk : 0 ≤ fnd (nxt (ps.getD i default).at_ sd) ps
  · have hlt := fnd_lt _ _ hk
    rw [getD_mv e s ps _ hlt]
    rfl
  · rw [if_neg (fun h => hk h.1), if_neg (fun h => hk h.1)]
theorem candP_mv (i : Nat) (hi : i < ps.length) : candP (ps.map (mvPc e s)) (pl.map (mvPu e s)) i = candP ps pl i := by
  unfold candP
  rw [List.filterMap_map]
  congr 1
  funext p
  have h1 : ((ps.map (mvPc e s)).getD i default).at_ = mvC e s (ps.getD i default).at_ := by rw [getD_mv e s ps i hi]; rfl
  show (if (⟨p.x + e, p.y + s⟩ : Ce) = ((ps.map (mvPc e s)).getD i default).at_ then some (p.t, p.s, (-1 : Int)) else none) = _
  rw [h1]
  have h2 : ((⟨p.x + e, p.y + s⟩ : Ce) = mvC e s (ps.getD i default).at_) ↔ ((⟨p.x, p.y⟩ : Ce) = (ps.getD i default).at_) := mvC_inj e s ⟨p.x, p.y⟩ _
  by_cases h : (⟨p.x, p.y⟩ : Ce) = (ps.getD i default).at_
  · rw [if_pos h, if_pos (h2.2 h)]
  · rw [if_neg h, if_neg (fun h3 => h (h2.1 h3))]
theorem due_mv (he : 0 ≤ e ∧ e ≤ 10) (hs : 0 ≤ s ∧ s ≤ 10) (hp : SmallPs ps) (fs : List Fa) (i : Nat) (hi : i < ps.length) : due (ps.map (mvPc e s)) (pl.map (mvPu e s)) fs i = due ps pl fs i := by
  have h1 : canH (ps.map (mvPc e s)) i = canH ps i := by
    funext h
    unfold canH
    rw [getD_mv e s ps i hi]
    rfl
  have h2 : ∀ sd : Nat, candN1 (ps.map (mvPc e s)) fs i (sd : Int) = candN1 ps fs i (sd : Int) := fun sd => candN1_mv he hs hp fs i hi sd
  unfold due dueC candN
  rw [h1, candP_mv i hi]
  simp only [h2]
theorem okFa_mv (he : 0 ≤ e ∧ e ≤ 10) (hs : 0 ≤ s ∧ s ≤ 10) (hp : SmallPs ps) (fs : List Fa) (h : okFa ps pl fs) : okFa (ps.map (mvPc e s)) (pl.map (mvPu e s)) fs := by
  obtain ⟨h1, h2, h3⟩ := h
  refine ⟨by rw [List.length_map]; exact h1, ?_, ?_⟩
  · rw [List.length_map]; exact h2
  · rw [List.length_map]
    intro i hi
    rw [due_mv he hs hp fs i hi]
    exact h3 i hi
theorem runOf_mv (he : 0 ≤ e ∧ e ≤ 10) (hs : 0 ≤ s ∧ s ≤ 10) (hp : SmallPs ps) (G : Good ps pl) (G' : Good (ps.map (mvPc e s)) (pl.map (mvPu e s))) : runOf (ps.map (mvPc e s)) (pl.map (mvPu e s)) = runOf ps pl :=
  (runOf_eq _ _ _ G' (okFa_mv he hs hp _ (runOf_ok ps pl G))).symm
end
/-- A machine on a wide board, moved. -/
def mvM (m : Mc) (wd hg e s : Int) : Mc := ⟨⟨wd, hg, m.bd.ps.map (mvPc e s)⟩, m.ins.map (mvPo e s), m.outs.map (mvC e s)⟩
theorem mPuTo_mv (ins : List Po) (r : Nat) (late : List Int) (e s : Int) : ∀ k, k ≤ ins.length → mPuTo (ins.map (mvPo e s)) r late k = (mPuTo ins r late k).map (mvPu e s) := by
  intro k
  induction k with
  | zero => intro _; rfl
  | succ k ih =>
    intro hk
    have h1 : puOf (ins.map (mvPo e s)) late k = mvPu e s (puOf ins late k) := by
      unfold puOf mvPu
      have h2 : (ins.map (mvPo e s)).getD k default = mvPo e s (ins.getD k default) := by
        rw [List.getD_eq_getElem?_getD, List.getD_eq_getElem?_getD, List.getElem?_map, List.getElem?_eq_getElem (by omega : k < ins.length)]
        rfl
      rw [h2]
      rfl
    unfold mPuTo
    rw [ih (by omega), List.map_append]
    congr 1
    split
    · rw [h1]; rfl
    · rfl
theorem vMc_mv (m : Mc) (hv : vMc m = true) (e s : Int) (he : 0 ≤ e ∧ e ≤ 10) (hs : 0 ≤ s ∧ s ≤ 10) (hw : m.bd.wd ≤ 10 ∧ m.bd.hg ≤ 10) : vMc (mvM m 20 20 e s) = true := by
  obtain ⟨hvb, h60, hi1, hi6, ho1, ho8, h7, h8, h9⟩ := vMc_parts m hv
  unfold vBd at hvb
  simp only [Bool.and_eq_true, decide_eq_true_eq, List.all_eq_true] at hvb
  obtain ⟨⟨⟨⟨c1, c2⟩, c3⟩, c4⟩, c5⟩ := hvb
  have hnd : ((m.bd.ps.map (mvPc e s)).map Pc.at_).Nodup := by
    have h1 : (m.bd.ps.map (mvPc e s)).map Pc.at_ = (m.bd.ps.map Pc.at_).map (mvC e s) := by rw [List.map_map, List.map_map]; rfl
    rw [h1, List.Nodup, List.pairwise_map]
    exact c5.imp (fun h h2 => h ((mvC_inj e s _ _).1 h2))
  unfold vMc vBd mvM
  simp only [Bool.and_eq_true, decide_eq_true_eq, List.all_eq_true, List.length_map]
  refine ⟨⟨⟨⟨⟨⟨⟨⟨by simp [inB], by simp [inB]⟩, c3⟩, ?_⟩, hnd⟩, h60⟩, by simp [inB]; omega⟩, by simp [inB]; omega⟩, ⟨⟨?_, ?_⟩, ?_⟩⟩
  · intro q hq
    obtain ⟨p, hp, rfl⟩ := List.mem_map.1 hq
    obtain ⟨p1, p2⟩ := c4 p hp
    have p3 : (0 ≤ p.x ∧ p.x ≤ m.bd.wd - 1) ∧ 0 ≤ p.y ∧ p.y ≤ m.bd.hg - 1 := by
      unfold cIn inB at p2
      simp only [Bool.and_eq_true, decide_eq_true_eq] at p2
      exact p2
    unfold vPc inB at p1
    simp only [Bool.and_eq_true, decide_eq_true_eq] at p1
    obtain ⟨⟨⟨k1, k2⟩, k3⟩, -⟩ := p1
    have w1 : m.bd.wd ≤ 10 := hw.1
    have w2 : m.bd.hg ≤ 10 := hw.2
    refine ⟨?_, ?_⟩
    · unfold vPc inB
      simp only [Bool.and_eq_true, decide_eq_true_eq]
      exact ⟨⟨⟨k1, k2⟩, k3⟩, ⟨by show 0 ≤ p.x + e; omega, by show p.x + e ≤ 23; omega⟩, by show 0 ≤ p.y + s; omega, by show p.y + s ≤ 23; omega⟩
    · unfold cIn inB
      simp only [Bool.and_eq_true, decide_eq_true_eq]
      exact ⟨⟨by show 0 ≤ p.x + e; omega, by show p.x + e ≤ 20 - 1; omega⟩, by show 0 ≤ p.y + s; omega, by show p.y + s ≤ 20 - 1; omega⟩
  · intro q hq
    obtain ⟨p, hp, rfl⟩ := List.mem_map.1 hq
    have h1 := List.all_eq_true.1 h7 p hp
    unfold poOk at h1 ⊢
    rw [Bool.and_eq_true] at h1 ⊢
    refine ⟨h1.1, ?_⟩
    have h2 := fnd_mv e s ⟨p.x, p.y⟩ m.bd.ps
    show decide (0 ≤ fnd (mvC e s ⟨p.x, p.y⟩) (m.bd.ps.map (mvPc e s))) = true
    rw [h2]
    exact h1.2
  · rw [List.Nodup, List.pairwise_map]
    exact h8.imp (fun h h2 => h ((mvPo_inj e s _ _).1 h2))
  · intro q hq
    obtain ⟨c, hc, rfl⟩ := List.mem_map.1 hq
    have h1 := List.all_eq_true.1 h9 c hc
    unfold outOk at h1 ⊢
    rw [fnd_mv]
    exact h1
theorem mvM_ok (m : Mc) (hv : vMc m = true) (hok : m.ok) (e s : Int) (he : 0 ≤ e ∧ e ≤ 10) (hs : 0 ≤ s ∧ s ≤ 10) : (mvM m 20 20 e s).ok := by
  obtain ⟨hvb, -, -, -, -, -, h7, -, h9⟩ := vMc_parts m hv
  unfold vBd at hvb
  simp only [Bool.and_eq_true, decide_eq_true_eq, List.all_eq_true] at hvb
  obtain ⟨⟨⟨⟨c1, c2⟩, c3⟩, c4⟩, c5⟩ := hvb
  have hin : ∀ c : Ce, decide (0 ≤ fnd c m.bd.ps) = true → (0 ≤ c.x ∧ c.x ≤ 23) ∧ 0 ≤ c.y ∧ c.y ≤ 23 := by
    intro c h
    rw [decide_eq_true_eq] at h
    have hlt := fnd_lt c m.bd.ps h
    have h1 : fnd c m.bd.ps = (((fnd c m.bd.ps).toNat : Nat) : Int) := by omega
    obtain ⟨hk, h2⟩ := (fnd_iff m.bd.ps c5 c _).1 h1
    have h3 := (c4 _ (List.getElem_mem hk)).1
    rw [← h2]
    unfold vPc inB at h3
    simp only [Bool.and_eq_true, decide_eq_true_eq] at h3
    exact h3.2
  refine ⟨⟨⟨by show (-128 : Int) ≤ 20; omega, by show (20 : Int) ≤ 127; omega⟩, ⟨by show (-128 : Int) ≤ 20; omega, by show (20 : Int) ≤ 127; omega⟩, ?_⟩, ?_, ?_⟩
  · intro k hk
    have hk2 : k < m.bd.ps.length := by simpa [mvM] using hk
    have h1 := hok.1.2.2 k hk2
    have h2 := (c4 _ (List.getElem_mem hk2)).1
    unfold vPc inB at h2
    simp only [Bool.and_eq_true, decide_eq_true_eq] at h2
    have e1 : ((mvM m 20 20 e s).bd.ps[k]'hk) = mvPc e s m.bd.ps[k] := List.getElem_map (mvPc e s)
    rw [e1]
    refine ⟨⟨⟨?_, ?_⟩, ⟨?_, ?_⟩⟩, h1.2.1, h1.2.2.1, h1.2.2.2⟩ <;> simp only [mvPc] <;> omega
  · intro k hk
    have hk2 : k < m.ins.length := by simpa [mvM] using hk
    have h1 := hok.2.1 k hk2
    have h2 := List.all_eq_true.1 h7 _ (List.getElem_mem hk2)
    unfold poOk at h2
    rw [Bool.and_eq_true] at h2
    have h3 := hin _ h2.2
    have e1 : ((mvM m 20 20 e s).ins[k]'hk) = mvPo e s m.ins[k] := List.getElem_map (mvPo e s)
    rw [e1]
    simp only at h3
    refine ⟨⟨?_, ?_⟩, ⟨?_, ?_⟩, h1.2.2⟩ <;> simp only [mvPo] <;> omega
  · intro k hk
    have hk2 : k < m.outs.length := by simpa [mvM] using hk
    have h2 := List.all_eq_true.1 h9 _ (List.getElem_mem hk2)
    unfold outOk at h2
    have h3 := hin _ h2
    have e1 : ((mvM m 20 20 e s).outs[k]'hk) = mvC e s m.outs[k] := List.getElem_map (mvC e s)
    rw [e1]
    refine ⟨⟨?_, ?_⟩, ⟨?_, ?_⟩⟩ <;> simp only [mvC] <;> omega
theorem mOut_mv (m : Mc) (hv : vMc m = true) (hok : m.ok) (e s : Int) (he : 0 ≤ e ∧ e ≤ 10) (hs : 0 ≤ s ∧ s ≤ 10) (hw : m.bd.wd ≤ 10 ∧ m.bd.hg ≤ 10) (r : Nat) (late : List Int) (hl : lateOk late) : mOut (mvM m 20 20 e s) r late = mOut m r late := by
  have G := late_good m r late hv hok hl
  have G' := late_good (mvM m 20 20 e s) r late (vMc_mv m hv e s he hs hw) (mvM_ok m hv hok e s he hs) hl
  have hpu : mPu (mvM m 20 20 e s) r late = (mPu m r late).map (mvPu e s) := by
    unfold mPu mvM
    simp only [List.length_map]
    exact mPuTo_mv m.ins r late e s _ (Nat.le_refl _)
  have hp : SmallPs m.bd.ps := by
    have hvb := (vMc_parts m hv).1
    unfold vBd at hvb
    simp only [Bool.and_eq_true, decide_eq_true_eq, List.all_eq_true] at hvb
    intro i hi
    have h1 := (hvb.1.2 m.bd.ps[i] (List.getElem_mem hi)).1
    unfold vPc inB at h1
    simp only [Bool.and_eq_true, decide_eq_true_eq] at h1
    rw [List.getD_eq_getElem?_getD, List.getElem?_eq_getElem hi]
    exact h1.2
  rw [hpu] at G'
  have hfa : mFa (mvM m 20 20 e s) r late = mFa m r late := by
    unfold mFa
    rw [hpu]
    exact runOf_mv he hs hp G G'
  have htk : mTk (mvM m 20 20 e s) r late = mTk m r late := by
    unfold mTk
    rw [hfa]
    show ((m.outs.map (mvC e s)).map _) = _
    rw [List.map_map]
    refine List.map_congr_left (fun c _ => ?_)
    show ((mFa m r late).getD (fnd (mvC e s c) (m.bd.ps.map (mvPc e s))).toNat default).t = _
    rw [fnd_mv]
  unfold mOut
  rw [htk]
  show bitsTo _ (m.outs.map (mvC e s)).length = _
  rw [List.length_map]
theorem mTabs_mv (m : Mc) (hv : vMc m = true) (hok : m.ok) (e s : Int) (he : 0 ≤ e ∧ e ≤ 10) (hs : 0 ≤ s ∧ s ≤ 10) (hw : m.bd.wd ≤ 10 ∧ m.bd.hg ≤ 10) : mTabs (mvM m 20 20 e s) = mTabs m := by
  have h1 : ∀ r, mOut (mvM m 20 20 e s) r (zeros m.ins.length) = mOut m r (zeros m.ins.length) := fun r => mOut_mv m hv hok e s he hs hw r _ (rep_late _ 0 (by omega) (by omega))
  unfold mTabs mRows mvM
  simp only [List.length_map]
  have h2 : (fun r => mOut (mvM m 20 20 e s) r (zeros m.ins.length)) = fun r => mOut m r (zeros m.ins.length) := funext h1
  unfold mvM at h2
  rw [h2]
theorem da_same (ma mb : Mc) (ha : vMc ma = true) (hb : vMc mb = true) (h1 : ma.ins.length = mb.ins.length) (h2 : ma.outs.length = mb.outs.length) (ht : mTabs mb = mTabs ma) : daVal ma mb = (0, 6) := by
  unfold daVal
  rw [if_pos ⟨ha, hb⟩, if_pos (by unfold daSame; exact decide_eq_true ⟨h1, h2⟩)]
  refine dfVal_none _ _ (fun r hr => ?_)
  unfold dfP
  rw [ht, List.any_eq_false]
  intro i hi
  simp
end Go.Proofs.YtmeefmoblkiebaaGreat
/- Useless parts: plain laws. -/
namespace Go.Proofs.YtmeefmoblkiebaaGreat
open Go.RowKit
set_option linter.unusedVariables false
set_option linter.unusedSimpArgs false
set_option maxHeartbeats 400000
set_option maxRecDepth 100000
/-- A machine without a piece. -/
def woMc (m : Mc) (i : Nat) : Mc := ⟨⟨m.bd.wd, m.bd.hg, m.bd.ps.eraseIdx i⟩, m.ins, m.outs⟩
theorem woMc_ok (m : Mc) (i : Nat) (h : m.ok) : (woMc m i).ok := by
  obtain ⟨⟨h1, h2, h3⟩, h4, h5⟩ := h
  refine ⟨⟨h1, h2, ?_⟩, h4, h5⟩
  intro k hk
  have h6 : (m.bd.ps.eraseIdx i)[k] ∈ m.bd.ps := List.mem_of_mem_eraseIdx (List.getElem_mem hk)
  obtain ⟨j, hj, e⟩ := List.mem_iff_getElem.1 h6
  show ((m.bd.ps.eraseIdx i)[k]'hk).ok
  rw [← e]
  exact h3 j hj
theorem fnd_ge (c : Ce) (ps : List Pc) : decide (0 ≤ fnd c ps) = decide (c ∈ ps.map Pc.at_) := by
  unfold fnd
  cases hf : ps.findIdx? (fun p => decide (p.at_ = c)) with
  | none =>
    rw [List.findIdx?_eq_none_iff] at hf
    have : c ∉ ps.map Pc.at_ := by
      intro h
      obtain ⟨p, hp, e⟩ := List.mem_map.1 h
      have := hf p hp
      simp [e] at this
    simp [this]
  | some k =>
    rw [List.findIdx?_eq_some_iff_getElem] at hf
    obtain ⟨h1, h2, -⟩ := hf
    have h3 : ps[k].at_ = c := by simpa using h2
    have : c ∈ ps.map Pc.at_ := List.mem_map.2 ⟨_, List.getElem_mem h1, h3⟩
    simp only [Option.elim, this, decide_true]
    exact decide_eq_true (by omega)
theorem map_erase {α β : Type} (f : α → β) (l : List α) : ∀ i, (l.map f).eraseIdx i = (l.eraseIdx i).map f := by
  induction l with
  | nil => intro i; simp
  | cons x l ih =>
    intro i
    cases i with
    | zero => simp
    | succ i => simp [ih]
theorem mem_erase_at (ps : List Pc) (i : Nat) (hi : i < ps.length) (hnd : (ps.map Pc.at_).Nodup) (c : Ce) : c ∈ (ps.eraseIdx i).map Pc.at_ ↔ c ∈ ps.map Pc.at_ ∧ c ≠ ps[i].at_ := by
  rw [← map_erase]
  have hi2 : i < (ps.map Pc.at_).length := by simpa using hi
  have e : ps[i].at_ = (ps.map Pc.at_)[i] := by simp
  rw [e]
  generalize ps.map Pc.at_ = l at *
  clear e hi
  constructor
  · intro h
    obtain ⟨k, hk, he⟩ := List.mem_iff_getElem.1 h
    rw [List.getElem_eraseIdx] at he
    rw [List.Nodup, List.pairwise_iff_getElem] at hnd
    rw [List.length_eraseIdx, if_pos hi2] at hk
    split at he
    · rename_i hlt
      refine ⟨by rw [← he]; exact List.getElem_mem _, ?_⟩
      rw [← he]
      exact hnd k i (by omega) hi2 hlt
    · rename_i hlt
      refine ⟨by rw [← he]; exact List.getElem_mem _, ?_⟩
      rw [← he]
      exact fun h9 => hnd i (k + 1) hi2 (by omega) (by omega) h9.symm
  · rintro ⟨h1, h2⟩
    obtain ⟨k, hk, he⟩ := List.mem_iff_getElem.1 h1
    rw [List.mem_iff_getElem]
    have hne : k ≠ i := fun h3 => h2 (by subst h3; exact he.symm)
    by_cases hlt : k < i
    · refine ⟨k, by rw [List.length_eraseIdx, if_pos hi2]; omega, ?_⟩
      rw [List.getElem_eraseIdx, dif_pos hlt, he]
    · refine ⟨k - 1, by rw [List.length_eraseIdx, if_pos hi2]; omega, ?_⟩
      rw [List.getElem_eraseIdx, dif_neg (by omega)]
      have : k - 1 + 1 = k := by omega
      simp only [this]
      exact he
theorem outOk_erase (ps : List Pc) (i : Nat) (hi : i < ps.length) (hnd : (ps.map Pc.at_).Nodup) (c : Ce) : outOk (ps.eraseIdx i) c = (outOk ps c && !decide (c = ps[i].at_)) := by
  unfold outOk
  rw [fnd_ge, fnd_ge, Bool.eq_iff_iff]
  simp only [decide_eq_true_eq, Bool.and_eq_true, Bool.not_eq_true', decide_eq_false_iff_not]
  exact mem_erase_at ps i hi hnd c
/-- Whether an input or an output stands at a cell. -/
def portAt (m : Mc) (c : Ce) : Bool := decide (c ∈ m.outs) || m.ins.any (fun p => decide ((⟨p.x, p.y⟩ : Ce) = c))
theorem vMc_wo (m : Mc) (i : Nat) (h : vMc m = true) (hi : i < m.bd.ps.length) : vMc (woMc m i) = !portAt m m.bd.ps[i].at_ := by
  obtain ⟨hvb, h60, hi1, hi6, ho1, ho8, h7, h8, h9⟩ := vMc_parts m h
  have hvb0 := hvb
  unfold vBd at hvb
  simp only [Bool.and_eq_true, decide_eq_true_eq] at hvb
  obtain ⟨⟨⟨⟨c1, c2⟩, c3⟩, c4⟩, c5⟩ := hvb
  have hlen : (m.bd.ps.eraseIdx i).length = m.bd.ps.length - 1 := by rw [List.length_eraseIdx, if_pos hi]
  have hvw : vBd (woMc m i).bd = true := by
    unfold vBd
    simp only [Bool.and_eq_true, decide_eq_true_eq]
    refine ⟨⟨⟨⟨c1, c2⟩, ?_⟩, ?_⟩, ?_⟩
    · show (m.bd.ps.eraseIdx i).length ≤ 200; omega
    · rw [List.all_eq_true] at c4 ⊢
      exact fun p hp => c4 p (List.mem_of_mem_eraseIdx hp)
    · show ((m.bd.ps.eraseIdx i).map Pc.at_).Nodup
      rw [← map_erase]
      exact List.Nodup.sublist (List.eraseIdx_sublist _ _) c5
  have hhead : headM (woMc m i) = true := by
    unfold headM
    rw [hvw, show decide ((woMc m i).bd.ps.length ≤ 60) = true from decide_eq_true (by show (m.bd.ps.eraseIdx i).length ≤ 60; omega)]
    unfold inB
    simp only [Bool.true_and, Bool.and_eq_true, decide_eq_true_eq]
    show ((1 : Int) ≤ m.ins.length ∧ (m.ins.length : Int) ≤ 6) ∧ ((1 : Int) ≤ m.outs.length ∧ (m.outs.length : Int) ≤ 8)
    omega
  rw [vMc_ht, hhead, Bool.true_and]
  unfold tailM portAt
  show (m.ins.all (poOk (m.bd.ps.eraseIdx i)) && decide m.ins.Nodup && m.outs.all (outOk (m.bd.ps.eraseIdx i))) = _
  rw [show decide m.ins.Nodup = true from decide_eq_true h8, Bool.and_true]
  have e1 : m.ins.all (poOk (m.bd.ps.eraseIdx i)) = !m.ins.any (fun p => decide ((⟨p.x, p.y⟩ : Ce) = m.bd.ps[i].at_)) := by
    rw [List.not_any_eq_all_not, Bool.eq_iff_iff, List.all_eq_true, List.all_eq_true]
    have h7' := List.all_eq_true.1 h7
    constructor
    · intro h p hp
      have h1 := h p hp
      unfold poOk at h1
      rw [Bool.and_eq_true] at h1
      have h2 := outOk_erase m.bd.ps i hi c5 ⟨p.x, p.y⟩
      unfold outOk at h2
      rw [h1.2] at h2
      have h3 := h2.symm
      rw [Bool.and_eq_true] at h3
      exact h3.2
    · intro h p hp
      have h1 := h7' p hp
      have h0 := h p hp
      unfold poOk at h1 ⊢
      rw [Bool.and_eq_true] at h1 ⊢
      refine ⟨h1.1, ?_⟩
      have h2 := outOk_erase m.bd.ps i hi c5 ⟨p.x, p.y⟩
      unfold outOk at h2
      rw [h2, h1.2, Bool.true_and]
      exact h0
  have e2 : m.outs.all (outOk (m.bd.ps.eraseIdx i)) = !decide (m.bd.ps[i].at_ ∈ m.outs) := by
    rw [Bool.eq_iff_iff, List.all_eq_true]
    have h9' := List.all_eq_true.1 h9
    simp only [Bool.not_eq_true', decide_eq_false_iff_not]
    constructor
    · intro h hm
      have h1 := h _ hm
      rw [outOk_erase m.bd.ps i hi c5] at h1
      simp at h1
    · intro h c hc
      rw [outOk_erase m.bd.ps i hi c5, h9' c hc, Bool.true_and]
      simp only [Bool.not_eq_true', decide_eq_false_iff_not]
      exact fun e => h (e ▸ hc)
  rw [e1, e2]
  cases m.ins.any (fun p => decide ((⟨p.x, p.y⟩ : Ce) = m.bd.ps[i].at_)) <;> cases decide (m.bd.ps[i].at_ ∈ m.outs) <;> rfl
/-- A useless part: the machine is valid without it, and has the same tables. -/
noncomputable def ulP (m : Mc) (tabs : List Nat) (i : Nat) : Bool := vMc (woMc m i) && decide (mTabs (woMc m i) = tabs)
noncomputable def ulList (m : Mc) : List Int := if vMc m = true then hzTo (ulP m (mTabs m)) m.bd.ps.length else []
theorem ulList_len (m : Mc) : (ulList m).length ≤ m.bd.ps.length := by
  unfold ulList; split; exact hzTo_len _ _; exact Nat.zero_le _
/-- What pruning does, step by step. -/
structure PrS where
  m : Mc
  i : Nat
  c : Nat
noncomputable def prStep (tabs : List Nat) (s : PrS) : PrS := if ulP s.m tabs s.i = true then ⟨woMc s.m s.i, 0, s.c + 1⟩ else ⟨s.m, s.i + 1, s.c⟩
noncomputable def prRun (tabs : List Nat) : Nat → PrS → PrS
  | 0, s => s
  | n + 1, s => if s.i < s.m.bd.ps.length then prRun tabs n (prStep tabs s) else s
def prMeas (s : PrS) : Nat := s.m.bd.ps.length * 62 + (s.m.bd.ps.length - s.i)
theorem prMeas_step (tabs : List Nat) (s : PrS) (h : s.i < s.m.bd.ps.length) (h60 : s.m.bd.ps.length ≤ 60) : prMeas (prStep tabs s) < prMeas s := by
  unfold prStep
  split
  · show (s.m.bd.ps.eraseIdx s.i).length * 62 + ((s.m.bd.ps.eraseIdx s.i).length - 0) < _
    rw [List.length_eraseIdx, if_pos h]
    unfold prMeas
    omega
  · show s.m.bd.ps.length * 62 + (s.m.bd.ps.length - (s.i + 1)) < _
    unfold prMeas
    omega
noncomputable def prVal (m : Mc) : PrS := prRun (mTabs m) 4000 ⟨m, 0, 0⟩
end Go.Proofs.YtmeefmoblkiebaaGreat
/- Contracts: slices.Equal and SameTables; a board without a piece (both). -/
namespace Go.Proofs.YtmeefmoblkiebaaGreat
open Go.RowKit
set_option linter.unusedVariables false
set_option linter.unusedSimpArgs false
set_option maxHeartbeats 400000
set_option maxRecDepth 100000
theorem equalU64_any {B : Nat} (a a' : Option Addr) (cap cap' : Nat) (xs ys : List Int) (w : World) (h : SlAt B w a (flat U64_cells xs)) (h' : SlAt B w a' (flat U64_cells ys)) (hB : B ≤ w.heap.size) (hn : xs.length ≤ 10000000) (hn' : ys.length ≤ 10000000) :
    Calls Tryz.prog 137 #[.slice a xs.length cap, .slice a' ys.length cap'] w fun e w' => e = .returned (.bool (decide (xs = ys))) ∧ Below w.heap.size w w' := by
  obtain ⟨res, hres⟩ : ∃ res, res = decide (xs = ys) := ⟨_, rfl⟩
  rw [← hres]
  by_cases hl : xs.length = ys.length
  · have g1 := eq_len hl
    have HL := Lib.hid hl
    have HR := Lib.hid hres
    clear hl hres
    go_enter Tryz.func137, Tryz.ntmps137
    go_wp2
    go_loopw [13] (fun ix wr => ∃ k : Nat, k ≤ xs.length ∧ ix = .int .i64 k ∧ Hid (xs.take k = ys.take k) ∧ Below w.heap.size w wr) (fun ix _ => xs.length - (intOf ix).toNat)
    case atStart => exact ⟨0, Nat.zero_le _, rfl, Lib.hid rfl, Below.refl _ _⟩
    case round =>
      obtain ⟨k, hk, rfl, HT, hb⟩ := hrel
      by_cases hlt : k < xs.length
      · have hky : k < ys.length := by rw [← HL.out]; exact hlt
        have hkI : (k : Int) < xs.length := by omega
        have hkJ : (k : Int) < ys.length := by omega
        obtain ⟨bx, offx, rfl, hbx, hatx⟩ := u64s_get (h.below hb hB) hlt
        obtain ⟨bY, offY, rfl, hbY, hatY⟩ := u64s_get (h'.below hb hB) hky
        unfold U64At at hatx hatY
        rw [Nat.mul_one] at hatx hatY
        have HTX := Lib.hid (List.take_succ_eq_append_getElem hlt)
        have HTY := Lib.hid (List.take_succ_eq_append_getElem hky)
        obtain ⟨X, hX⟩ : ∃ X, X = xs[k] := ⟨_, rfl⟩
        obtain ⟨Y, hY⟩ : ∃ Y, Y = ys[k] := ⟨_, rfl⟩
        rw [← hX] at hatx HTX
        rw [← hY] at hatY HTY
        have HXY : Hid (xs = ys → X = Y) := Lib.hid (fun e => by subst e; rw [hX, hY])
        have HB1 := Lib.hid hb
        clear hX hY hb hky
        rcases Int.decEq X Y with hne | heq
        · have gp : (X != Y) = true := by rw [bne_iff_ne]; exact hne
          have HF : Hid (res = false) := Lib.hid (by rw [HR.out]; exact decide_eq_false (fun e => hne (HXY.out e)))
          clear hne
          go_wp2_with fail
          go_quiet (fail)
          go_wp2
          go_ret
          exact ⟨by rw [HF.out]; rfl, bl_drewN HB1.out⟩
        · have gp : (X != Y) = false := by rw [heq]; simp
          have HE : Hid (xs.take (k + 1) = ys.take (k + 1)) := Lib.hid (by rw [HTX.out, HTY.out, HT.out, heq])
          clear heq
          go_wp2_with fail
          go_quiet (fail)
          go_wp2
          go_roundw
          case rel => exact ⟨k + 1, by omega, by go_num, HE, bl_drewN HB1.out⟩
          case measure => simp [intOf]; omega
      · have hkI : ¬ (k : Int) < xs.length := by omega
        have HE : Hid (res = true) := Lib.hid (by
          have h1 := HT.out
          rw [List.take_of_length_le (by omega), List.take_of_length_le (by rw [← HL.out]; omega)] at h1
          rw [HR.out]; exact decide_eq_true h1)
        go_wp2
        go_ret
        exact ⟨by rw [HE.out]; rfl, hb⟩
  · have g1 := neq_len hl
    have HF : Hid (res = false) := Lib.hid (by rw [hres]; exact decide_eq_false (fun e => hl (by rw [e])))
    clear hl hres
    go_enter Tryz.func137, Tryz.ntmps137
    go_wp2
    go_ret
    exact ⟨by rw [HF.out]; rfl, Below.refl _ _⟩
theorem sameTables_any {B : Nat} (a a' : Option Addr) (cap cap' : Nat) (xs ys : List Int) (w : World) (h : SlAt B w a (flat U64_cells xs)) (h' : SlAt B w a' (flat U64_cells ys)) (hB : B ≤ w.heap.size) (hn : xs.length ≤ 10000000) (hn' : ys.length ≤ 10000000) :
    Calls Tryz.prog 141 #[.slice a xs.length cap, .slice a' ys.length cap'] w fun e w' => e = .returned (.bool (decide (xs = ys))) ∧ Below w.heap.size w w' := by
  obtain ⟨res, hres⟩ : ∃ res, res = decide (xs = ys) := ⟨_, rfl⟩
  rw [← hres]
  by_cases hl : xs.length = ys.length
  · have g1 := eq_len hl
    have HL := Lib.hid hl
    have HR := Lib.hid hres
    clear hl hres
    go_enter Tryz.func141, Tryz.ntmps141
    go_wp2
    go_loopw [5] (fun ix wr => ∃ k : Nat, k ≤ xs.length ∧ ix = .int .i64 k ∧ Hid (xs.take k = ys.take k) ∧ Below w.heap.size w wr) (fun ix _ => xs.length - (intOf ix).toNat)
    case atStart => exact ⟨0, Nat.zero_le _, rfl, Lib.hid rfl, Below.refl _ _⟩
    case round =>
      obtain ⟨k, hk, rfl, HT, hb⟩ := hrel
      by_cases hlt : k < xs.length
      · have hky : k < ys.length := by rw [← HL.out]; exact hlt
        have hkI : (k : Int) < xs.length := by omega
        have hkJ : (k : Int) < ys.length := by omega
        obtain ⟨bx, offx, rfl, hbx, hatx⟩ := u64s_get (h.below hb hB) hlt
        obtain ⟨bY, offY, rfl, hbY, hatY⟩ := u64s_get (h'.below hb hB) hky
        unfold U64At at hatx hatY
        rw [Nat.mul_one] at hatx hatY
        have HTX := Lib.hid (List.take_succ_eq_append_getElem hlt)
        have HTY := Lib.hid (List.take_succ_eq_append_getElem hky)
        obtain ⟨X, hX⟩ : ∃ X, X = xs[k] := ⟨_, rfl⟩
        obtain ⟨Y, hY⟩ : ∃ Y, Y = ys[k] := ⟨_, rfl⟩
        rw [← hX] at hatx HTX
        rw [← hY] at hatY HTY
        have HXY : Hid (xs = ys → X = Y) := Lib.hid (fun e => by subst e; rw [hX, hY])
        have HB1 := Lib.hid hb
        clear hX hY hb hky
        rcases Int.decEq X Y with hne | heq
        · have gp : (X != Y) = true := by rw [bne_iff_ne]; exact hne
          have HF : Hid (res = false) := Lib.hid (by rw [HR.out]; exact decide_eq_false (fun e => hne (HXY.out e)))
          clear hne
          go_wp2_with fail
          go_quiet (fail)
          go_wp2
          go_ret
          exact ⟨by rw [HF.out]; rfl, bl_drewN HB1.out⟩
        · have gp : (X != Y) = false := by rw [heq]; simp
          have HE : Hid (xs.take (k + 1) = ys.take (k + 1)) := Lib.hid (by rw [HTX.out, HTY.out, HT.out, heq])
          clear heq
          go_wp2_with fail
          go_quiet (fail)
          go_wp2
          go_roundw
          case rel => exact ⟨k + 1, by omega, by go_num, HE, bl_drewN HB1.out⟩
          case measure => simp [intOf]; omega
      · have hkI : ¬ (k : Int) < xs.length := by omega
        have HE : Hid (res = true) := Lib.hid (by
          have h1 := HT.out
          rw [List.take_of_length_le (by omega), List.take_of_length_le (by rw [← HL.out]; omega)] at h1
          rw [HR.out]; exact decide_eq_true h1)
        go_wp2
        go_ret
        exact ⟨by rw [HE.out]; rfl, hb⟩
  · have g1 := neq_len hl
    have HF : Hid (res = false) := Lib.hid (by rw [hres]; exact decide_eq_false (fun e => hl (by rw [e])))
    clear hl hres
    go_enter Tryz.func141, Tryz.ntmps141
    go_wp2
    go_ret
    exact ⟨by rw [HF.out]; rfl, Below.refl _ _⟩
/-- A block of three cells of one's own. -/
def BF3 (w : World) (b : Nat) (v0 v1 v2 : Value) : Prop := b < w.heap.size ∧ w.cell? ⟨b, 0, none⟩ = some v0 ∧ w.cell? ⟨b, 1, none⟩ = some v1 ∧ w.cell? ⟨b, 2, none⟩ = some v2 ∧ w.frozen? ⟨b, 0, none⟩ = false ∧ w.frozen? ⟨b, 1, none⟩ = false ∧ w.frozen? ⟨b, 2, none⟩ = false
theorem BF3.new (w : World) (v0 v1 v2 : Value) (T : TypeId) : BF3 (w.alloc (.cells #[v0, v1, v2] T)) w.heap.size v0 v1 v2 := by
  have hh := heap_alloc_new w (.cells #[v0, v1, v2] T)
  refine ⟨by simp, ?_, ?_, ?_, ?_, ?_, ?_⟩ <;> simp [go_sem]
theorem with_any (b0 : Nat) (l : Bd) (a : Option Addr) (n cap : Nat) (w : World) (h : BP w b0 l) :
    Calls Tryz.prog 130 #[.pointer (some ⟨b0, 0, none⟩), .slice a n cap] w fun e w' => e = .returned (bdv l.wd l.hg (.slice a n cap)) ∧ Below w.heap.size w w' := by
  obtain ⟨hbl, s, ⟨c0, c1, c2⟩, -⟩ := h
  have e0 : (w.alloc (.cells #[.int .i8 0, .int .i8 0, .slice none 0 0] 27)).cell? ⟨b0, 0, none⟩ = some (.int .i8 l.wd) := by rw [cell_alloc _ _ _ _ hbl]; exact c0
  have e1 : (w.alloc (.cells #[.int .i8 0, .int .i8 0, .slice none 0 0] 27)).cell? ⟨b0, 1, none⟩ = some (.int .i8 l.hg) := by rw [cell_alloc _ _ _ _ hbl]; exact c1
  have hb1 : Below w.heap.size w (w.alloc (.cells #[.int .i8 0, .int .i8 0, .slice none 0 0] 27)) := bl_alloc (Below.refl _ _)
  have hz1 : (w.alloc (.cells #[.int .i8 0, .int .i8 0, .slice none 0 0] 27)).heap.size = w.heap.size + 1 := by simp
  have HX := Lib.hid (BF3.new w (.int .i8 0) (.int .i8 0) (.slice none 0 0) 27)
  go_enter Tryz.func130, Tryz.ntmps130
  go_wp2_with fail
  obtain ⟨w1, hw1⟩ : ∃ w1, w1 = w.alloc (.cells #[.int .i8 0, .int .i8 0, .slice none 0 0] 27) := ⟨_, rfl⟩
  rw [← hw1] at e0 e1 hb1 hz1 HX ⊢
  obtain ⟨g, hg⟩ : ∃ g, g = w.heap.size := ⟨_, rfl⟩
  rw [← hg] at HX ⊢
  obtain ⟨-, x0, x1, x2, f0, f1, f2⟩ := HX.out
  have HB := Lib.hid hb1
  have HG := Lib.hid hg
  clear hw1 hg hb1
  go_still_tail 10, (by kernel_rfl)
  change wpList _ _ _ _ _ w1.drew
  go_wp2
  refine bodyPost_ret (v := bdv l.wd l.hg (.slice a n cap)) (by simp [results, Tryz.results130, go_sem, x0, x1, x2]) rfl ⟨rfl, ?_⟩
  have hgl : w.heap.size ≤ g := by rw [HG.out]; exact Nat.le_refl _
  exact bl_drew (bl_set (bl_set (bl_set HB.out hgl _) hgl _) hgl _)
end Go.Proofs.YtmeefmoblkiebaaGreat
/- Falls hang on pushes or on earlier falls: plain law. -/
namespace Go.Proofs.YtmeefmoblkiebaaGreat
open Go.RowKit
set_option linter.unusedVariables false
set_option linter.unusedSimpArgs false
set_option maxHeartbeats 400000
set_option maxRecDepth 100000
end Go.Proofs.YtmeefmoblkiebaaGreat
/- The falls of a board are a proof: plain law. -/
namespace Go.Proofs.YtmeefmoblkiebaaGreat
open Go.RowKit
set_option linter.unusedVariables false
set_option linter.unusedSimpArgs false
set_option maxHeartbeats 400000
set_option maxRecDepth 100000
structure Prf (l : Bd) (pl : List Pu) (fs : List Fa) : Prop where
  ok : okFa l.ps pl fs
  len : fs.length = l.ps.length
  n200 : l.ps.length ≤ 200
  tick : ∀ (i : Nat) (hi : i < fs.length), (-1 ≤ fs[i].t ∧ fs[i].t ≤ 2800) ∧ (0 ≤ fs[i].f ∧ fs[i].f ≤ 3) ∧ -1 ≤ fs[i].b ∧ fs[i].b < 200
def smallFa (f : Fa) : Prop := (-1 ≤ f.t ∧ f.t ≤ 2810) ∧ (0 ≤ f.f ∧ f.f ≤ 3) ∧ -1 ≤ f.b ∧ f.b < 200
theorem Prf.small {l : Bd} {pl : List Pu} {fs : List Fa} (h : Prf l pl fs) : ∀ f ∈ fs, smallFa f := by
  intro f hf
  obtain ⟨i, hi, rfl⟩ := List.getElem_of_mem hf
  have := h.tick i hi
  exact ⟨⟨this.1.1, by omega⟩, this.2.1, this.2.2⟩
end Go.Proofs.YtmeefmoblkiebaaGreat
/- Contracts: the source of choices (spec.l00Src). -/
namespace Go.Proofs.YtmeefmoblkiebaaGreat
open Go.RowKit
set_option linter.unusedVariables false
set_option linter.unusedSimpArgs false
set_option maxHeartbeats 400000
set_option maxRecDepth 100000
abbrev U8c (n : Int) : List Value := [.int .u8 n]
theorem U8c_len (n : Int) : (U8c n).length = 1 := rfl
def BytesOk (code : List Int) : Prop := code.length ≤ 10000 ∧ ∀ k (h : k < code.length), 0 ≤ code[k] ∧ code[k] ≤ 255
/-- A source of choices: at most k have been drawn. -/
def SrcAt (w : World) (p : Nat) (code : List Int) (k : Nat) : Prop :=
  ∃ (a : Option Addr) (cap n : Nat) (seed : Int), w.heap[p]? = some (.cells #[.slice a code.length cap, .int .i64 (n : Int), .int .u64 seed] 136 (0, 0)) ∧ SlAt p w a (flat U8c code) ∧ n ≤ k
theorem SrcAt.lt {w : World} {p : Nat} {code : List Int} {k : Nat} (h : SrcAt w p code k) : p < w.heap.size := by
  obtain ⟨a, cap, n, seed, hh, -⟩ := h
  exact lt_of_block hh
theorem SrcAt.le {w : World} {p : Nat} {code : List Int} {k k' : Nat} (h : SrcAt w p code k) (hk : k ≤ k') : SrcAt w p code k' := by
  obtain ⟨a, cap, n, seed, hh, h1, h2⟩ := h
  exact ⟨a, cap, n, seed, hh, h1, Nat.le_trans h2 hk⟩
theorem SlAt.grownP {B p : Nat} {w w' : World} {a : Option Addr} {xs : List Value} {row : Option Nat} (hp : SlAt B w a xs) (h : w.grownBy w' row) (hB : B ≤ w.heap.size) (hr : ∀ g, row = some g → B ≤ g) : SlAt B w' a xs := by
  intro i hi
  obtain ⟨b, off, h1, h2, h3⟩ := hp i hi
  refine ⟨b, off, h1, h2, ?_⟩
  rw [World.cell?_of_block (a := ⟨b, off + i, none⟩) (h.block b (by omega) (fun e => by have := hr b e.symm; omega))]
  exact h3
/-- A source that is left alone. -/
theorem SrcAt.grown {w w' : World} {p : Nat} {code : List Int} {k : Nat} {row : Option Nat} (h : SrcAt w p code k) (hg : w.grownBy w' row) (hr : ∀ g, row = some g → p < g) : SrcAt w' p code k := by
  have hlt := h.lt
  obtain ⟨a, cap, n, seed, hh, h1, h2⟩ := h
  refine ⟨a, cap, n, seed, ?_, h1.grownP (p := p) hg (by omega) (fun g e => by have := hr g e; omega), h2⟩
  rw [hg.block p hlt (fun e => by have := hr p e.symm; omega)]
  exact hh
theorem SrcAt.step {w w' : World} {p : Nat} {code : List Int} {k B : Nat} (h : SrcAt w p code k) (hb : Below B w w') (hp : p < B) : SrcAt w' p code k := by
  obtain ⟨a, cap, n, seed, hh, h1, h2⟩ := h
  exact ⟨a, cap, n, seed, by rw [hb.block p hp]; exact hh, h1.below hb (by omega), h2⟩
theorem three_cells {w : World} {p : Nat} {x y z : Value} {T : TypeId} (h : w.heap[p]? = some (.cells #[x, y, z] T (0, 0))) :
    w.cell? ⟨p, 0, none⟩ = some x ∧ w.cell? ⟨p, 1, none⟩ = some y ∧ w.cell? ⟨p, 2, none⟩ = some z ∧ ∀ i, w.frozen? ⟨p, i, none⟩ = false := by
  refine ⟨by simp [World.cell?, h], by simp [World.cell?, h], by simp [World.cell?, h], fun i => by simp [World.frozen?, h]⟩
theorem three_set1 {w : World} {p : Nat} {x y z u : Value} {T : TypeId} (h : w.heap[p]? = some (.cells #[x, y, z] T (0, 0))) : (w.setCell ⟨p, 1, none⟩ u).heap[p]? = some (.cells #[x, u, z] T (0, 0)) := by
  have hlt := lt_of_block h
  have h' : w.heap[p] = .cells #[x, y, z] T (0, 0) := by simpa [Array.getElem?_eq_getElem hlt] using h
  show (w.heap.modify p _)[p]? = _
  rw [Array.getElem?_eq_getElem (by simpa using hlt), Array.getElem_modify_self, h']
  rfl
theorem three_set2 {w : World} {p : Nat} {x y z u : Value} {T : TypeId} (h : w.heap[p]? = some (.cells #[x, y, z] T (0, 0))) : (w.setCell ⟨p, 2, none⟩ u).heap[p]? = some (.cells #[x, y, u] T (0, 0)) := by
  have hlt := lt_of_block h
  have h' : w.heap[p] = .cells #[x, y, z] T (0, 0) := by simpa [Array.getElem?_eq_getElem hlt] using h
  show (w.heap.modify p _)[p]? = _
  rw [Array.getElem?_eq_getElem (by simpa using hlt), Array.getElem_modify_self, h']
  rfl
theorem grown_set1 (w : World) (p o : Nat) (u : Value) : w.grownBy (w.setCell ⟨p, o, none⟩ u) (some p) :=
  ⟨rfl, rfl, rfl, by simp, fun k _ hk => heap_setCell_other w ⟨p, o, none⟩ k u (fun e => hk (by simp [e]))⟩
theorem and255 (y : Int) : 0 ≤ bits .and .u64 y 255 ∧ bits .and .u64 y 255 ≤ 255 := by
  have h1 : ((BitVec.ofInt 64 y &&& BitVec.ofInt 64 255).toNat : Nat) ≤ 255 := by
    rw [BitVec.toNat_and]
    exact Nat.le_trans Nat.and_le_right (by decide)
  have h2 : bits .and .u64 y 255 = ((BitVec.ofInt 64 y &&& BitVec.ofInt 64 255).toNat : Int) := by
    show IntKind.u64.wrap ((BitVec.ofInt 64 y &&& BitVec.ofInt 64 255).toNat : Int) = _
    exact wrap_u64 _ (by omega) (by omega)
  rw [h2]
  omega
theorem src_facts {w : World} {p n k cap : Nat} {seed : Int} {code : List Int} {a : Option Addr} (hh : w.heap[p]? = some (.cells #[.slice a code.length cap, .int .i64 (n : Int), .int .u64 seed] 136 (0, 0))) (hsl : SlAt p w a (flat U8c code)) (hle : n ≤ k) :
    ∀ W : World, w.grownBy W none → w.grownBy W (some p) ∧ (W.cell? ⟨p, 0, none⟩ = some (.slice a code.length cap) ∧ W.cell? ⟨p, 1, none⟩ = some (.int .i64 (n : Int)) ∧ W.cell? ⟨p, 2, none⟩ = some (.int .u64 seed) ∧ ∀ i, W.frozen? ⟨p, i, none⟩ = false) ∧
      ((W.setCell ⟨p, 1, none⟩ (.int .i64 ((n : Int) + 1))).cell? ⟨p, 0, none⟩ = some (.slice a code.length cap) ∧ (W.setCell ⟨p, 1, none⟩ (.int .i64 ((n : Int) + 1))).cell? ⟨p, 1, none⟩ = some (.int .i64 ((n : Int) + 1)) ∧ (W.setCell ⟨p, 1, none⟩ (.int .i64 ((n : Int) + 1))).cell? ⟨p, 2, none⟩ = some (.int .u64 seed) ∧ ∀ i, (W.setCell ⟨p, 1, none⟩ (.int .i64 ((n : Int) + 1))).frozen? ⟨p, i, none⟩ = false) ∧
      (∀ u : Int, ((W.setCell ⟨p, 1, none⟩ (.int .i64 ((n : Int) + 1))).setCell ⟨p, 2, none⟩ (.int .u64 u)).cell? ⟨p, 0, none⟩ = some (.slice a code.length cap)) ∧
      (∀ u : Int, ((W.setCell ⟨p, 1, none⟩ (.int .i64 ((n : Int) + 1))).setCell ⟨p, 2, none⟩ (.int .u64 u)).cell? ⟨p, 1, none⟩ = some (.int .i64 ((n : Int) + 1))) ∧
      (∀ u : Int, ((W.setCell ⟨p, 1, none⟩ (.int .i64 ((n : Int) + 1))).setCell ⟨p, 2, none⟩ (.int .u64 u)).cell? ⟨p, 2, none⟩ = some (.int .u64 u)) ∧ True ∧
      (∀ u : Int, SrcAt ((W.setCell ⟨p, 1, none⟩ (.int .i64 ((n : Int) + 1))).setCell ⟨p, 2, none⟩ (.int .u64 u)) p code (k + 1) ∧ w.grownBy ((W.setCell ⟨p, 1, none⟩ (.int .i64 ((n : Int) + 1))).setCell ⟨p, 2, none⟩ (.int .u64 u)) (some p)) := by
  intro W hg
  have hlt := lt_of_block hh
  have hgp : w.grownBy W (some p) := ⟨hg.os, hg.tape, hg.output, hg.size, fun k hk _ => hg.block k hk (by simp)⟩
  have hH : W.heap[p]? = some (.cells #[.slice a code.length cap, .int .i64 (n : Int), .int .u64 seed] 136 (0, 0)) := by rw [hg.block p hlt (by simp)]; exact hh
  have hltW := lt_of_block hH
  have h1 := three_set1 (u := .int .i64 ((n : Int) + 1)) hH
  refine ⟨hgp, three_cells hH, three_cells h1, fun u => (three_cells (three_set2 h1)).1, fun u => (three_cells (three_set2 h1)).2.1, fun u => (three_cells (three_set2 h1)).2.2.1, trivial, ?_⟩
  intro u
  have h2 := three_set2 (u := .int .u64 u) h1
  refine ⟨⟨a, cap, n + 1, u, h2, ?_, by omega⟩, grown_trans hgp (grown_trans (grown_set1 W p 1 _) (grown_set1 _ p 2 _))⟩
  have h3 : SlAt p W a (flat U8c code) := hsl.grownP (p := p) hg (by omega) (fun g e => by cases e)
  exact (h3.grownP (p := p) (grown_set1 W p 1 _) (by omega) (fun g e => by cases e; exact Nat.le_refl _)).grownP (p := p) (grown_set1 _ p 2 _) (by simp; omega) (fun g e => by cases e; exact Nat.le_refl _)
theorem wrap_i8' {n : Int} (h1 : -9000000000000000000 ≤ n) (h2 : n ≤ 9000000000000000000) : wrap64 n = n := by unfold wrap64; omega
theorem l00From_any (a : Option Addr) (cap : Nat) (code : List Int) (w : World) (h : SlAt w.heap.size w a (flat U8c code)) :
    Calls Tryz.prog 42 #[.slice a code.length cap] w fun e w' => e = .returned (.pointer (some ⟨w.heap.size, 0, none⟩)) ∧ SrcAt w' w.heap.size code 0 ∧ Below w.heap.size w w' := by
  have hb : Below w.heap.size w (w.alloc (.cells #[.slice a code.length cap, .int .i64 0, .int .u64 0] 136)) := bl_alloc (Below.refl _ _)
  have hs : SrcAt (w.alloc (.cells #[.slice a code.length cap, .int .i64 0, .int .u64 0] 136)) w.heap.size code 0 := by
    refine ⟨a, cap, 0, 0, ?_, h.below hb (Nat.le_refl _), Nat.le_refl _⟩
    exact heap_alloc_new _ _
  go_enter Tryz.func42, Tryz.ntmps42
  go_wp2
  go_ret
  exact ⟨rfl, hs, hb⟩
theorem srcNext_any (p : Nat) (code : List Int) (k : Nat) (w : World) (hs : SrcAt w p code k) (hc : BytesOk code) (hk : k ≤ 1000000) :
    Calls Tryz.prog 118 #[.pointer (some ⟨p, 0, none⟩)] w fun e w' => ∃ v : Int, e = .returned (.int .i64 v) ∧ 0 ≤ v ∧ v ≤ 255 ∧ SrcAt w' p code (k + 1) ∧ w.grownBy w' (some p) := by
  obtain ⟨a, cap, n, seed, hh, hsl, hle⟩ := hs
  have hlt := lt_of_block hh
  have FACTS := Lib.hid (src_facts (code := code) (k := k) hh hsl hle)
  obtain ⟨c0, c1, c2, hf⟩ := three_cells hh
  have hw : IntKind.i64.wrap ((n : Int) + 1) = (n : Int) + 1 := wrap_i64' _ (by omega) (by omega)
  have hcl := hc.1
  rcases dec_cases ((n : Int) < (code.length : Int)) with ⟨g1, g2⟩ | ⟨g1, g2⟩
  · have hn : n < code.length := by omega
    obtain ⟨b, off, rfl, hbp, hget⟩ := hsl.get U8c_len (by omega) hn
    have hget0 := hget 0 _ rfl
    rw [Nat.mul_one, Nat.add_zero] at hget0
    obtain ⟨b0, b1⟩ := hc.2 n hn
    obtain ⟨v, hv⟩ : ∃ v, v = code[n] := ⟨_, rfl⟩
    rw [← hv] at hget0 b0 b1
    have hwv : IntKind.i64.wrap v = v := wrap_i64' _ (by omega) (by omega)
    have g3 : decide ((n : Int) + 1 ≤ (code.length : Int)) = true := by simp; omega
    clear hget hsl hle hv hh
    go_enter Tryz.func118, Tryz.ntmps118
    go_wp2_with fail
    go_quiet (fail)
    go_wp2_with fail
    go_quiet (fail)
    generalize hW : World.drewN _ nq = W
    obtain ⟨hgW, ⟨p0, p1, p2, pf⟩, ⟨d0, d1, d2, hf1⟩, e0, e1, e2, -, key⟩ := FACTS.out W (by rw [← hW]; exact ⟨rfl, rfl, rfl, Nat.le_refl _, fun _ _ _ => rfl⟩)
    clear c0 c1 c2 hf hget0 hW
    go_wp2
    go_quiet (fail)
    go_wp2
    go_ret
    obtain ⟨K1, K2⟩ := key (IntKind.u64.wrap (IntKind.u64.wrap (IntKind.u64.wrap (seed * 6364136223846793005) + v) + 1442695040888963407))
    exact ⟨_, rfl, b0, b1, K1.grown (row := none) ⟨rfl, rfl, rfl, Nat.le_refl _, fun _ _ _ => rfl⟩ (fun g e => by cases e), grown_trans K2 ⟨rfl, rfl, rfl, Nat.le_refl _, fun _ _ _ => rfl⟩⟩
  · have g3 : decide ((n : Int) + 1 ≤ (code.length : Int)) = false := by simp; omega
    clear hsl hle hh
    go_enter Tryz.func118, Tryz.ntmps118
    go_wp2_with fail
    go_quiet (fail)
    generalize hW : World.drewN _ nq = W
    obtain ⟨hgW, ⟨p0, p1, p2, pf⟩, ⟨d0, d1, d2, hf1⟩, e0, e1, e2, -, key⟩ := FACTS.out W (by rw [← hW]; exact ⟨rfl, rfl, rfl, Nat.le_refl _, fun _ _ _ => rfl⟩)
    clear c0 c1 c2 hf hW
    go_wp2
    go_quiet (fail)
    go_wp2
    go_ret
    obtain ⟨K1, K2⟩ := key (IntKind.u64.wrap (IntKind.u64.wrap (IntKind.u64.wrap (seed * 6364136223846793005)) + 1442695040888963407))
    have h255 := and255 (IntKind.u64.wrap (IntKind.u64.wrap (IntKind.u64.wrap (seed * 6364136223846793005)) + 1442695040888963407) / 1099511627776)
    have e255 : wrap64 (bits .and .u64 (IntKind.u64.wrap (IntKind.u64.wrap (IntKind.u64.wrap (seed * 6364136223846793005)) + 1442695040888963407) / 1099511627776) 255) = bits .and .u64 (IntKind.u64.wrap (IntKind.u64.wrap (IntKind.u64.wrap (seed * 6364136223846793005)) + 1442695040888963407) / 1099511627776) 255 := wrap_i8' (by omega) (by omega)
    refine ⟨_, rfl, ?_, ?_, K1.grown (row := none) ⟨rfl, rfl, rfl, Nat.le_refl _, fun _ _ _ => rfl⟩ (fun g e => by cases e), grown_trans K2 ⟨rfl, rfl, rfl, Nat.le_refl _, fun _ _ _ => rfl⟩⟩
    · rw [e255]; exact h255.1
    · rw [e255]; exact h255.2
end Go.Proofs.YtmeefmoblkiebaaGreat
/- Contracts: numbers and chances from the source of choices. -/
namespace Go.Proofs.YtmeefmoblkiebaaGreat
open Go.RowKit
set_option linter.unusedVariables false
set_option linter.unusedSimpArgs false
set_option maxHeartbeats 400000
set_option maxRecDepth 100000
theorem pick_any (p : Nat) (code : List Int) (k : Nat) (w : World) (n : Int) (hs : SrcAt w p code k) (hc : BytesOk code) (hk : k ≤ 900000) (hn : n ≤ 1000000) :
    Calls Tryz.prog 67 #[.pointer (some ⟨p, 0, none⟩), .int .i64 n] w fun e w' => ∃ v : Int, e = .returned (.int .i64 v) ∧ 0 ≤ v ∧ v < max n 1 ∧ SrcAt w' p code (k + 2) ∧ w.grownBy w' (some p) := by
  rcases dec_cases (n ≤ 1) with ⟨g1, g2⟩ | ⟨g1, g2⟩
  · go_enter Tryz.func67, Tryz.ntmps67
    go_wp2
    go_ret
    exact ⟨0, rfl, by omega, by omega, hs.le (by omega), ⟨rfl, rfl, rfl, Nat.le_refl _, fun _ _ _ => rfl⟩⟩
  · rcases dec_cases (n > 200) with ⟨g3, g4⟩ | ⟨g3, g4⟩
    · go_enter Tryz.func67, Tryz.ntmps67
      go_wp2_with fail
      refine (srcNext_any p code k w hs hc (by omega)).mono ?_
      rintro e w1 ⟨x, rfl, x0, x1, hs1, hg1⟩
      have N2 := Lib.hid (srcNext_any p code (k + 1) w1 hs1 hc (by omega))
      have e1 : IntKind.i64.wrap (x * 256) = x * 256 := wrap_i64' _ (by omega) (by omega)
      clear hs hs1
      go_wp2_with fail
      refine N2.out.mono ?_
      rintro e w2 ⟨y, rfl, y0, y1, hs2, hg2⟩
      have e2 : IntKind.i64.wrap (x * 256 + y) = x * 256 + y := wrap_i64' _ (by omega) (by omega)
      go_wp2
      go_ret
      exact ⟨_, rfl, Int.emod_nonneg _ (by omega), Int.lt_of_lt_of_le (Int.emod_lt_of_pos _ (by omega)) (by omega), hs2, grown_trans hg1 hg2⟩
    · go_enter Tryz.func67, Tryz.ntmps67
      go_wp2_with fail
      refine (srcNext_any p code k w hs hc (by omega)).mono ?_
      rintro e w1 ⟨x, rfl, x0, x1, hs1, hg1⟩
      go_wp2
      go_ret
      exact ⟨_, rfl, Int.emod_nonneg _ (by omega), Int.lt_of_lt_of_le (Int.emod_lt_of_pos _ (by omega)) (by omega), hs1.le (by omega), hg1⟩
theorem one_any (p : Nat) (code : List Int) (k : Nat) (w : World) (n : Int) (hs : SrcAt w p code k) (hc : BytesOk code) (hk : k ≤ 900000) (hn : n ≤ 1000000) :
    Calls Tryz.prog 96 #[.pointer (some ⟨p, 0, none⟩), .int .i64 n] w fun e w' => ∃ v : Bool, e = .returned (.bool v) ∧ SrcAt w' p code (k + 2) ∧ w.grownBy w' (some p) := by
  go_enter Tryz.func96, Tryz.ntmps96
  go_wp2_with fail
  refine (pick_any p code k w n hs hc hk hn).mono ?_
  rintro e w1 ⟨x, rfl, x0, x1, hs1, hg1⟩
  obtain ⟨v, hv⟩ : ∃ v, v = (x == 0) := ⟨_, rfl⟩
  go_wp2
  go_ret
  exact ⟨_, rfl, hs1, hg1⟩
end Go.Proofs.YtmeefmoblkiebaaGreat
/- Contracts: a piece that is drawn. -/
namespace Go.Proofs.YtmeefmoblkiebaaGreat
open Go.RowKit
set_option linter.unusedVariables false
set_option linter.unusedSimpArgs false
set_option maxHeartbeats 400000
set_option maxRecDepth 100000
theorem grown_refl (w : World) (row : Option Nat) : w.grownBy w row := ⟨rfl, rfl, rfl, Nat.le_refl _, fun _ _ _ => rfl⟩
theorem grownS_drewN {a w : World} {row : Option Nat} (h : a.grownBy w row) (n : Nat) : a.grownBy (w.drewN n) row := grown_trans h ⟨rfl, rfl, rfl, Nat.le_refl _, fun _ _ _ => rfl⟩
theorem grownS_drew {a w : World} {row : Option Nat} (h : a.grownBy w row) : a.grownBy w.drew row := grown_trans h ⟨rfl, rfl, rfl, Nat.le_refl _, fun _ _ _ => rfl⟩
theorem SrcAt.drewN {w : World} {p : Nat} {code : List Int} {k : Nat} (h : SrcAt w p code k) {n : Nat} : SrcAt (w.drewN n) p code k := h.grown (row := none) ⟨rfl, rfl, rfl, Nat.le_refl _, fun _ _ _ => rfl⟩ (fun g e => by cases e)
theorem SrcAt.drew {w : World} {p : Nat} {code : List Int} {k : Nat} (h : SrcAt w p code k) : SrcAt w.drew p code k := h.grown (row := none) ⟨rfl, rfl, rfl, Nat.le_refl _, fun _ _ _ => rfl⟩ (fun g e => by cases e)
theorem SrcAt.alloc {w : World} {p : Nat} {code : List Int} {k : Nat} (h : SrcAt w p code k) {o : Obj} : SrcAt (w.alloc o) p code k := h.step (Below.alloc (Below.refl w.heap.size w) (Nat.le_refl _) _) h.lt
theorem grownS_alloc {a w : World} {row : Option Nat} (h : a.grownBy w row) (o : Obj) : a.grownBy (w.alloc o) row := grown_trans h (World.grownBy_alloc w o row)
theorem ext_g {w w' : World} {p b : Nat} (h : w.grownBy w' (some p)) (hb : b < w.heap.size) (hp : b ≠ p) : w.grownBy w' (some p) ∧ ∀ o, w'.cell? ⟨b, o, none⟩ = w.cell? ⟨b, o, none⟩ :=
  ⟨h, fun o => World.cell?_of_block (a := ⟨b, o, none⟩) (h.block b hb (fun e => hp (by simpa using e)))⟩
theorem five_cells {w : World} {b : Nat} {v0 v1 v2 v3 v4 : Value} {T : TypeId} (h : w.heap[b]? = some (.cells #[v0, v1, v2, v3, v4] T (0, 0))) :
    w.cell? ⟨b, 0, none⟩ = some v0 ∧ w.cell? ⟨b, 1, none⟩ = some v1 ∧ w.cell? ⟨b, 2, none⟩ = some v2 ∧ w.cell? ⟨b, 3, none⟩ = some v3 ∧ w.cell? ⟨b, 4, none⟩ = some v4 ∧
    w.frozen? ⟨b, 0, none⟩ = false ∧ w.frozen? ⟨b, 1, none⟩ = false ∧ w.frozen? ⟨b, 2, none⟩ = false ∧ w.frozen? ⟨b, 3, none⟩ = false ∧ w.frozen? ⟨b, 4, none⟩ = false := by
  refine ⟨by simp [World.cell?, h], by simp [World.cell?, h], by simp [World.cell?, h], by simp [World.cell?, h], by simp [World.cell?, h], by simp [World.frozen?, h], by simp [World.frozen?, h], by simp [World.frozen?, h], by simp [World.frozen?, h], by simp [World.frozen?, h]⟩
theorem alloc_kept {u w2 : World} {o : Obj} {p : Nat} (h : (u.alloc o).grownBy w2 (some p)) (hp : p < u.heap.size) : w2.heap[u.heap.size]? = some o := by
  rw [h.block u.heap.size (by simp) (fun e => by simp at e; omega)]
  exact heap_alloc_new _ _
theorem grown_new {w w2 w3 : World} {p b : Nat} (h : w.grownBy w2 (some p)) (k : w2.grownBy w3 (some b)) (hb : w.heap.size ≤ b) : w.grownBy w3 (some p) :=
  ⟨k.os.trans h.os, k.tape.trans h.tape, k.output.trans h.output, Nat.le_trans h.size k.size, fun i hi hne => (k.block i (Nat.lt_of_lt_of_le hi h.size) (fun e => by simp at e; omega)).trans (h.block i hi hne)⟩
theorem grown_setNew {a w : World} {p b o : Nat} (h : a.grownBy w (some p)) (hb : a.heap.size ≤ b) (u : Value) : a.grownBy (w.setCell ⟨b, o, none⟩ u) (some p) := grown_new h (grown_set1 w b o u) hb
theorem alloc_keptD {u w2 : World} {o : Obj} {p : Nat} (h : (u.alloc o).drew.grownBy w2 (some p)) (hp : p < u.heap.size) : w2.heap[u.heap.size]? = some o := alloc_kept (grown_trans (grownS_drew (grown_refl (u.alloc o) (some p))) h) hp
theorem gcell {u w : World} {p : Nat} (h : u.grownBy w (some p)) : (∀ b o, b < u.heap.size → p < b → w.cell? ⟨b, o, none⟩ = u.cell? ⟨b, o, none⟩) ∧ (∀ b o, b < u.heap.size → p < b → w.frozen? ⟨b, o, none⟩ = u.frozen? ⟨b, o, none⟩) := by
  have key : ∀ b, b < u.heap.size → p < b → w.heap[b]? = u.heap[b]? := fun b hb hp => h.block b hb (fun e => by simp at e; omega)
  exact ⟨fun b o hb hp => by simp [World.cell?, key b hb hp], fun b o hb hp => by simp [World.frozen?, key b hb hp]⟩
theorem set_block {w : World} {b : Nat} {c : Array Value} {T : TypeId} (h : w.heap[b]? = some (.cells c T (0, 0))) (o : Nat) (u : Value) : (w.setCell ⟨b, o, none⟩ u).heap[b]? = some (.cells (c.setIfInBounds o u) T (0, 0)) := by
  have hlt := lt_of_block h
  have h' : w.heap[b] = .cells c T (0, 0) := by simpa [Array.getElem?_eq_getElem hlt] using h
  show (w.heap.modify b _)[b]? = _
  rw [Array.getElem?_eq_getElem (by simpa using hlt), Array.getElem_modify_self, h']
  rfl
theorem five_set {w : World} {b : Nat} {v0 v1 v2 v3 v4 : Value} {T : TypeId} (h : w.heap[b]? = some (.cells #[v0, v1, v2, v3, v4] T (0, 0))) (u0 u1 u2 u3 u4 : Value) :
    (((((w.setCell ⟨b, 0, none⟩ u0).setCell ⟨b, 1, none⟩ u1).setCell ⟨b, 2, none⟩ u2).setCell ⟨b, 3, none⟩ u3).setCell ⟨b, 4, none⟩ u4).heap[b]? = some (.cells #[u0, u1, u2, u3, u4] T (0, 0)) :=
  set_block (set_block (set_block (set_block (set_block h 0 u0) 1 u1) 2 u2) 3 u3) 4 u4
theorem SrcAt.setNew {w : World} {p b o : Nat} {code : List Int} {k : Nat} (h : SrcAt w p code k) (hb : p < b) (u : Value) : SrcAt (w.setCell ⟨b, o, none⟩ u) p code k := h.grown (row := some b) (grown_set1 w b o u) (fun g e => by cases e; exact hb)
theorem w8b {x m : Int} (h0 : 0 ≤ x) (h1 : x < m) (hm : m ≤ 100) : 0 ≤ IntKind.i8.wrap x ∧ IntKind.i8.wrap x < m := by
  simp [IntKind.wrap, IntKind.bits, IntKind.signed]; omega
theorem fin_piece {W wx : World} {p k b : Nat} {code : List Int} {v0 v1 v4 : Value} {x y : Int} {T : TypeId} (h : wx.heap[b]? = some (.cells #[v0, v1, .int .i8 x, .int .i8 y, v4] T (0, 0))) (hb : W.heap.size ≤ b) (hx : 0 ≤ x ∧ x ≤ 5) (hy : 0 ≤ y ∧ y ≤ 3) (hs : SrcAt wx p code k) (hg : W.grownBy wx (some p)) :
    ∃ (b' : Nat) (x y : Int), Value.pointer (some ⟨b, 0, none⟩) = .pointer (some ⟨b', 0, none⟩) ∧ W.heap.size ≤ b' ∧ wx.heap[b']? = some (.cells #[v0, v1, .int .i8 x, .int .i8 y, v4] T (0, 0)) ∧ (0 ≤ x ∧ x ≤ 5) ∧ (0 ≤ y ∧ y ≤ 3) ∧ SrcAt wx p code k ∧ W.grownBy wx (some p) :=
  ⟨b, x, y, rfl, hb, h, hx, hy, hs, hg⟩
set_option maxHeartbeats 1600000 in
theorem l01PieceDrawn_any (p : Nat) (code : List Int) (k : Nat) (w : World) (c : Ce) (hs : SrcAt w p code k) (hc : BytesOk code) (hk : k ≤ 800000) (hco : c.ok) :
    Calls Tryz.prog 97 #[.pointer (some ⟨p, 0, none⟩), c.val] w fun e w' => ∃ P : Pc, e = .returned P.val ∧ P.x = c.x ∧ P.y = c.y ∧ 0 ≤ P.k ∧ P.k ≤ 5 ∧ 0 ≤ P.t ∧ P.t ≤ 3 ∧ 1 ≤ P.d ∧ P.d ≤ 4 ∧ SrcAt w' p code (k + 8) ∧ w.grownBy w' (some p) := by
  have hlt := hs.lt
  obtain ⟨cx, cy⟩ := c
  obtain ⟨W, hW⟩ : ∃ W, W = (w.alloc (.cells #[.int .i8 cx, .int .i8 cy] 47)).alloc (.cells #[.int .i8 0, .int .i8 0, .int .i8 0, .int .i8 0, .int .i8 0] 49) := ⟨_, rfl⟩
  have hWs : W.heap.size = w.heap.size + 2 := by rw [hW]; simp
  have hpW : p < W.heap.size := by omega
  have hWg : w.grownBy W (some p) := by rw [hW]; exact grownS_alloc (grownS_alloc (grown_refl _ _) _) _
  have hsW : SrcAt W p code k := by rw [hW]; exact hs.step (Below.alloc (Below.alloc (Below.refl w.heap.size w) (Nat.le_refl _) _) (by simp) _) hlt
  have hx0 : W.cell? ⟨w.heap.size, 0, none⟩ = some (.int .i8 cx) := by rw [hW]; simp [go_sem]
  have hx1 : W.cell? ⟨w.heap.size, 1, none⟩ = some (.int .i8 cy) := by rw [hW]; simp [go_sem]
  have hWq : W.heap[w.heap.size + 1]? = some (.cells #[.int .i8 0, .int .i8 0, .int .i8 0, .int .i8 0, .int .i8 0] 49 (0, 0)) := by
    rw [hW]
    have := heap_alloc_new (w.alloc (.cells #[.int .i8 cx, .int .i8 cy] 47)) (.cells #[.int .i8 0, .int .i8 0, .int .i8 0, .int .i8 0, .int .i8 0] 49)
    simpa using this
  have HP := Lib.hid (fun w' j (h : SrcAt w' p code j) (hj : j ≤ 900000) (n : Int) (hn : n ≤ 1000000) => pick_any p code j w' n h hc hj hn)
  go_enter Tryz.func97, Tryz.ntmps97
  go_wp2_with fail
  rw [← hW]
  clear hW
  have hWl : w.heap.size + 1 < W.heap.size := by omega
  have HWq := Lib.hid hWq
  clear hWs hWq
  go_cut [5] from 6 to 13 (fun s5 wx => ∃ (b : Nat) (x y : Int), s5 = .pointer (some ⟨b, 0, none⟩) ∧ W.heap.size ≤ b ∧ wx.heap[b]? = some (.cells #[.int .i8 cx, .int .i8 cy, .int .i8 x, .int .i8 y, .int .i8 1] 49 (0, 0)) ∧ (0 ≤ x ∧ x ≤ 5) ∧ (0 ≤ y ∧ y ≤ 3) ∧ SrcAt wx p code (k + 4) ∧ W.grownBy wx (some p))
  case first =>
    go_region_held3 (fun w' => W.grownBy w' (some p) ∧ ∀ o, w'.cell? ⟨w.heap.size, o, none⟩ = W.cell? ⟨w.heap.size, o, none⟩) ((refine ext_g ?_ (by omega) (by omega); exact (by repeat (first | with_reducible exact grown_refl _ _ | with_reducible assumption | with_reducible apply grownS_drewN | with_reducible apply grownS_drew | with_reducible apply grownS_alloc | (with_reducible refine grown_setNew ?_ (by first | omega | (simp; omega)) _) | with_reducible refine grown_trans ?_ (by with_reducible assumption))))) (first | (go_at_call 67; with_reducible (show Calls _ _ _ (World.alloc _ _) _); refine (HP.out _ _ (by repeat (first | with_reducible assumption | with_reducible apply SrcAt.drewN | with_reducible apply SrcAt.drew | with_reducible apply SrcAt.alloc | (with_reducible refine SrcAt.setNew ?_ (by omega) _))) (by omega) _ (by omega)).mono ?_; rintro e w1 ⟨x, rfl, x0, x1, hs1, hg1⟩; have hp1 := hs1.lt; have hwx := w8b x0 x1 (by omega); have hbk := Lib.hid (alloc_kept hg1 (by omega)); obtain ⟨y0, y1, y2, y3, y4, z0, z1, z2, z3, z4⟩ := five_cells hbk.out) | (go_at_call 67; with_reducible (show Calls _ _ _ (World.drew (World.alloc _ _)) _); refine (HP.out _ _ (by repeat (first | with_reducible assumption | with_reducible apply SrcAt.drewN | with_reducible apply SrcAt.drew | with_reducible apply SrcAt.alloc | (with_reducible refine SrcAt.setNew ?_ (by omega) _))) (by omega) _ (by omega)).mono ?_; rintro e w1 ⟨x, rfl, x0, x1, hs1, hg1⟩; have hp1 := hs1.lt; have hwx := w8b x0 x1 (by omega); have hbk := Lib.hid (alloc_keptD hg1 (by omega)); obtain ⟨y0, y1, y2, y3, y4, z0, z1, z2, z3, z4⟩ := five_cells hbk.out; have hz1 := hg1.size; (try simp [Nat.succ_le_iff] at hz1)) | (go_at_call 67; refine (HP.out _ _ (by repeat (first | with_reducible assumption | with_reducible apply SrcAt.drewN | with_reducible apply SrcAt.drew | with_reducible apply SrcAt.alloc | (with_reducible refine SrcAt.setNew ?_ (by omega) _))) (by omega) _ (by omega)).mono ?_; rintro e w1 ⟨x, rfl, x0, x1, hs1, hg1⟩; have hp1 := hs1.lt; have hwx := w8b x0 x1 (by omega); have hz1 := hg1.size; (try simp [Nat.succ_le_iff] at hz1); obtain ⟨hc1, hf1⟩ := gcell hg1))
    all_goals
      go_wp2_with fail
      go_meet
      with_reducible apply fin_piece
      · first | with_reducible exact heap_alloc_new _ _ | with_reducible exact five_set hbk.out _ _ _ _ _ | exact five_set ((hg1.block W.heap.size (by omega) (fun e => by simp at e; omega)).trans hbk.out) _ _ _ _ _
      · omega
      · omega
      · omega
      · exact (by repeat (first | with_reducible assumption | with_reducible apply SrcAt.drewN | with_reducible apply SrcAt.drew | with_reducible apply SrcAt.alloc | (with_reducible refine SrcAt.setNew ?_ (by omega) _)))
      · exact (by repeat (first | with_reducible exact grown_refl _ _ | with_reducible assumption | with_reducible apply grownS_drewN | with_reducible apply grownS_drew | with_reducible apply grownS_alloc | (with_reducible refine grown_setNew ?_ (by first | omega | (simp; omega)) _) | with_reducible refine grown_trans ?_ (by with_reducible assumption)))
  case rest =>
    obtain ⟨b, x, y, rfl, hb, hblk, hx, hy, hs4, hg4⟩ := hcut
    go_wp2_with fail
    refine (one_any p code (k + 4) wc 3 hs4 hc (by omega) (by omega)).mono ?_
    rintro e w2 ⟨v, rfl, hs6, hg6⟩
    have hg2 := grown_trans hg4 hg6
    have hb2 := (hg6.block b (lt_of_block hblk) (fun e => by simp at e; omega)).trans hblk
    have hq2 := (hg2.block (w.heap.size + 1) hWl (fun e => by simp at e; omega)).trans HWq.out
    have hbne : b ≠ w.heap.size + 1 := by omega
    clear hblk hg6 hs4 HP hx0 hx1
    have hwp : p < w.heap.size + 1 := by omega
    cases v with
    | true =>
      go_wp2_with fail
      refine (pick_any p code (k + 6) w2 4 hs6 hc (by omega) (by omega)).mono ?_
      rintro e w3 ⟨u, rfl, u0, u1, hs8, hg8⟩
      have u2 : u ≤ 3 := by omega
      have e1 : IntKind.i64.wrap (1 + u) = 1 + u := wrap_i64' _ (by omega) (by omega)
      have e2 : IntKind.i8.wrap (1 + u) = 1 + u := by simp [IntKind.wrap, IntKind.bits, IntKind.signed]; omega
      have hb3 := (hg8.block b (lt_of_block hb2) (fun e => by simp at e; omega)).trans hb2
      have hq3 := (hg8.block (w.heap.size + 1) (lt_of_block hq2) (fun e => by simp at e; omega)).trans hq2
      have hb4 : (w3.setCell ⟨b, 4, none⟩ (.int .i8 (1 + u))).heap[b]? = _ := set_block hb3 4 _
      have hq4 : (w3.setCell ⟨b, 4, none⟩ (.int .i8 (1 + u))).heap[w.heap.size + 1]? = _ := (heap_setCell_other w3 ⟨b, 4, none⟩ (w.heap.size + 1) (.int .i8 (1 + u)) (fun e => hbne (by simp at e; omega))).trans hq3
      have HB4 := Lib.hid hb4
      have HQ4 := Lib.hid hq4
      obtain ⟨a0, a1, a2, a3, a4, f0, f1, f2, f3, f4⟩ := five_cells hb3
      obtain ⟨c0, c1, c2, c3, c4, d0, d1, d2, d3, d4⟩ := five_cells hq3
      have hg9 : w.grownBy (w3.setCell ⟨b, 4, none⟩ (.int .i8 (1 + u))) (some p) := by
        have hgA := grown_trans hWg (grown_trans hg2 hg8)
        exact grown_setNew hgA (by omega) _
      have hs9 : SrcAt (w3.setCell ⟨b, 4, none⟩ (.int .i8 (1 + u))) p code (k + 8) := by
        have := hs8.lt
        exact SrcAt.setNew hs8 (by omega) _
      clear hb3 hq3 hb4 hq4 hb2 hq2 hg8 hs8 hg2 hs6 hg4 hWg
      go_wp2
      have hh := five_set HQ4.out (.int .i8 cx) (.int .i8 cy) (.int .i8 x) (.int .i8 y) (.int .i8 (1 + u))
      refine bodyPost_ret (v := .agg #[.int .i8 cx, .int .i8 cy, .int .i8 x, .int .i8 y, .int .i8 (1 + u)]) (results_cell_row Tryz.results97 _ _ (w.heap.size + 1) 49 _ (0, 0) _ rfl hh Tryz.underlying49 rfl (by kernel_rfl)) rfl ⟨⟨cx, cy, x, y, 1 + u⟩, rfl, rfl, rfl, hx.1, hx.2, hy.1, hy.2, by show 1 ≤ 1 + u; omega, by show 1 + u ≤ 4; omega, ?_, ?_⟩
      · exact (by repeat (first | with_reducible assumption | with_reducible apply SrcAt.drewN | with_reducible apply SrcAt.drew | with_reducible apply SrcAt.alloc | (with_reducible refine SrcAt.setNew ?_ (by omega) _)))
      · exact (by repeat (first | with_reducible exact grown_refl _ _ | with_reducible assumption | with_reducible apply grownS_drewN | with_reducible apply grownS_drew | with_reducible apply grownS_alloc | (with_reducible refine grown_setNew ?_ (by first | omega | (simp; omega)) _) | with_reducible refine grown_trans ?_ (by with_reducible assumption)))
    | false =>
      obtain ⟨a0, a1, a2, a3, a4, f0, f1, f2, f3, f4⟩ := five_cells hb2
      obtain ⟨c0, c1, c2, c3, c4, d0, d1, d2, d3, d4⟩ := five_cells hq2
      go_wp2
      have hh := five_set hq2 (.int .i8 cx) (.int .i8 cy) (.int .i8 x) (.int .i8 y) (.int .i8 1)
      refine bodyPost_ret (v := .agg #[.int .i8 cx, .int .i8 cy, .int .i8 x, .int .i8 y, .int .i8 1]) (results_cell_row Tryz.results97 _ _ (w.heap.size + 1) 49 _ (0, 0) _ rfl hh Tryz.underlying49 rfl (by kernel_rfl)) rfl ⟨⟨cx, cy, x, y, 1⟩, rfl, rfl, rfl, hx.1, hx.2, hy.1, hy.2, by show (1 : Int) ≤ 1; omega, by show (1 : Int) ≤ 4; omega, ?_, ?_⟩
      · have hs8 := hs6.le (show k + 6 ≤ k + 8 by omega)
        exact (by repeat (first | with_reducible assumption | with_reducible apply SrcAt.drewN | with_reducible apply SrcAt.drew | with_reducible apply SrcAt.alloc | (with_reducible refine SrcAt.setNew ?_ (by omega) _)))
      · have hgA := grown_trans hWg hg2
        exact (by repeat (first | with_reducible exact grown_refl _ _ | with_reducible assumption | with_reducible apply grownS_drewN | with_reducible apply grownS_drew | with_reducible apply grownS_alloc | (with_reducible refine grown_setNew ?_ (by first | omega | (simp; omega)) _) | with_reducible refine grown_trans ?_ (by with_reducible assumption)))
end Go.Proofs.YtmeefmoblkiebaaGreat
/- Boards that are drawn row by row: plain law. -/
namespace Go.Proofs.YtmeefmoblkiebaaGreat
open Go.RowKit
set_option linter.unusedVariables false
set_option linter.unusedSimpArgs false
set_option maxHeartbeats 400000
set_option maxRecDepth 100000
structure DrI (wd hg y x : Int) (ps : List Pc) : Prop where
  ok : ∀ k (h : k < ps.length), ps[k].ok
  v : ps.all (fun p => vPc p && cIn wd hg p.at_) = true
  nd : (ps.map Pc.at_).Nodup
  lt : ∀ c ∈ ps.map Pc.at_, c.y < y ∨ (c.y = y ∧ c.x < x)
  len : (ps.length : Int) ≤ 6 * y + x
theorem DrI.nil (wd hg : Int) : DrI wd hg 0 0 [] := ⟨fun k h => absurd h (by simp), rfl, by simp, by simp, by simp⟩
theorem DrI.skip {wd hg y x : Int} {ps : List Pc} (h : DrI wd hg y x ps) : DrI wd hg y (x + 1) ps :=
  ⟨h.ok, h.v, h.nd, fun c hc => by have := h.lt c hc; omega, by have := h.len; omega⟩
theorem DrI.row {wd hg y x : Int} {ps : List Pc} (h : DrI wd hg y x ps) (hx : x ≤ 6) : DrI wd hg (y + 1) 0 ps :=
  ⟨h.ok, h.v, h.nd, fun c hc => by have := h.lt c hc; omega, by have := h.len; omega⟩
theorem DrI.push {wd hg y x : Int} {ps : List Pc} (h : DrI wd hg y x ps) (p : Pc) (ho : p.ok) (hv : vPc p = true) (hx : p.x = x) (hy : p.y = y) (h0 : 0 ≤ x) (h1 : x < wd) (h2 : 0 ≤ y) (h3 : y < hg) : DrI wd hg y (x + 1) (ps ++ [p]) := by
  refine ⟨?_, ?_, ?_, ?_, ?_⟩
  · intro k hk
    rw [List.getElem_append]
    split
    · exact h.ok k _
    · simpa using ho
  · rw [List.all_append, h.v]
    simp only [List.all_cons, List.all_nil, Bool.and_true, Bool.true_and, hv]
    simp only [cIn, inB, Pc.at_, hx, hy, Bool.and_eq_true, decide_eq_true_eq]
    omega
  · rw [List.map_append, List.nodup_append]
    refine ⟨h.nd, by simp, ?_⟩
    intro a ha b hb
    simp only [List.map_cons, List.map_nil, List.mem_singleton] at hb
    have := h.lt a ha
    intro hab
    rw [hab, hb] at this
    have e1 : p.at_.x = x := hx
    have e2 : p.at_.y = y := hy
    omega
  · intro c hc
    rw [List.map_append, List.mem_append] at hc
    rcases hc with hc | hc
    · have := h.lt c hc; omega
    · simp only [List.map_cons, List.map_nil, List.mem_singleton] at hc
      have e1 : p.at_.x = x := hx
      have e2 : p.at_.y = y := hy
      rw [hc]
      omega
  · rw [List.length_append]
    have := h.len
    simp only [List.length_cons, List.length_nil]
    omega
theorem DrI.vBd {wd hg y x : Int} {ps : List Pc} (h : DrI wd hg y x ps) (hw : 1 ≤ wd ∧ wd ≤ 24) (hh : 1 ≤ hg ∧ hg ≤ 24) (hy : 6 * y + x ≤ 200) : vBd ⟨wd, hg, ps⟩ = true := by
  have := h.len
  simp only [Go.Proofs.YtmeefmoblkiebaaGreat.vBd, inB, Bool.and_eq_true, decide_eq_true_eq]
  refine ⟨⟨⟨⟨by omega, by omega⟩, by omega⟩, h.v⟩, h.nd⟩
end Go.Proofs.YtmeefmoblkiebaaGreat
/- Contracts: a board that is drawn. -/
namespace Go.Proofs.YtmeefmoblkiebaaGreat
open Go.RowKit
set_option linter.unusedVariables false
set_option linter.unusedSimpArgs false
set_option maxHeartbeats 400000
set_option maxRecDepth 100000
theorem blk_kept {w w' : World} {b : Nat} {o : Obj} {row : Option Nat} (h : w.heap[b]? = some o) (hg : w.grownBy w' row) (hne : row ≠ some b) : w'.heap[b]? = some o := by
  rw [hg.block b (lt_of_block h) (fun e => hne e.symm)]
  exact h
theorem drawn_pc (P : Pc) {c : Ce} (h0 : (0 ≤ c.x ∧ c.x ≤ 23) ∧ 0 ≤ c.y ∧ c.y ≤ 23) (hx : P.x = c.x) (hy : P.y = c.y) (k0 : 0 ≤ P.k) (k1 : P.k ≤ 5) (t0 : 0 ≤ P.t) (t1 : P.t ≤ 3) (d0 : 1 ≤ P.d) (d1 : P.d ≤ 4) : P.ok ∧ vPc P = true := by
  obtain ⟨x, y, k, t, d⟩ := P
  simp only at *
  subst hx
  subst hy
  refine ⟨⟨⟨⟨by show -128 ≤ c.x; omega, by show c.x ≤ 127; omega⟩, ⟨by show -128 ≤ c.y; omega, by show c.y ≤ 127; omega⟩⟩, ⟨by show -128 ≤ k; omega, by show k ≤ 127; omega⟩, ⟨by show -128 ≤ t; omega, by show t ≤ 127; omega⟩, ⟨by show -128 ≤ d; omega, by show d ≤ 127; omega⟩⟩, ?_⟩
  simp [vPc, inB]
  omega
theorem infoPcD : (Tryz.prog.info? 49).map (fun i => (i.zero, i.size, i.bytes)) = some (some (.agg #[.int .i8 0, .int .i8 0, .int .i8 0, .int .i8 0, .int .i8 0]), 5, 5) := by kernel_rfl
/-- The board while it is drawn. -/
structure DrS (w wr : World) (p b wd hg : Nat) (code : List Int) (k : Nat) (v : Value) (ps : List Pc) : Prop where
  blk : wr.heap[b]? = some (.cells #[.int .i8 wd, .int .i8 hg, v] 27 (0, 0))
  own : wr.ownsRow (b + 1) 49 5 v ps.length (flat Pc.cells ps)
  src : SrcAt wr p code k
  grown : w.grownBy wr (some p)
theorem DrS.le {w wr : World} {p b wd hg : Nat} {code : List Int} {k k' : Nat} {v : Value} {ps : List Pc} (h : DrS w wr p b wd hg code k v ps) (hk : k ≤ k') : DrS w wr p b wd hg code k' v ps := ⟨h.blk, h.own, h.src.le hk, h.grown⟩
/-- A callee that draws. -/
theorem DrS.draw {w wr w' : World} {p b wd hg : Nat} {code : List Int} {k k' : Nat} {v : Value} {ps : List Pc} (h : DrS w wr p b wd hg code k v ps) (hs : SrcAt w' p code k') (hg' : wr.grownBy w' (some p)) (hp : p < b) : DrS w w' p b wd hg code k' v ps :=
  ⟨blk_kept h.blk hg' (fun e => by simp at e; omega), own_kept h.own hg' (fun q hq => by have := (h.own.lt q hq).1; intro e; simp at e; omega), hs, grown_trans h.grown hg'⟩
theorem DrS.alloc {w wr : World} {p b wd hg : Nat} {code : List Int} {k : Nat} {v : Value} {ps : List Pc} (h : DrS w wr p b wd hg code k v ps) (o : Obj) : DrS w (wr.alloc o) p b wd hg code k v ps :=
  ⟨blk_kept (row := none) h.blk (World.grownBy_alloc wr o none) (by simp), own_kept (row := none) h.own (World.grownBy_alloc wr o none) (fun q hq => by simp), h.src.alloc, grownS_alloc h.grown o⟩
theorem DrS.set {w wr : World} {p b wd hg q o : Nat} {code : List Int} {k : Nat} {v : Value} {ps : List Pc} (h : DrS w wr p b wd hg code k v ps) (hp : p < b) (hw : w.heap.size ≤ q) (hb : b < q) (hv : ∀ g, v.ownBlock = some g → g ≠ q) (u : Value) : DrS w (wr.setCell ⟨q, o, none⟩ u) p b wd hg code k v ps :=
  ⟨blk_kept h.blk (grown_set1 wr q o u) (fun e => by simp at e; omega), own_kept h.own (grown_set1 wr q o u) (fun g hg e => hv g hg (by simpa using e)), h.src.setNew (by omega) u, grown_setNew h.grown hw u⟩
theorem DrS.own_lt {w wr : World} {p b wd hg : Nat} {code : List Int} {k : Nat} {v : Value} {ps : List Pc} (h : DrS w wr p b wd hg code k v ps) : ∀ g, v.ownBlock = some g → g ≠ wr.heap.size := fun g hg e => by have := (h.own.lt g hg).2; omega
/-- The piece is put behind the row. -/
theorem DrS.push {w wr w6 : World} {p b wd hg : Nat} {code : List Int} {k : Nat} {v v' : Value} {ps : List Pc} {P : Pc} {o : Obj} (h : DrS w wr p b wd hg code k v ps) (hp : p < b) (hb : w.heap.size ≤ b) (hgrow : (wr.alloc o).grownBy w6 v.ownBlock) (hown : w6.ownsRow (b + 1) 49 5 v' (ps.length + 1) (flat Pc.cells ps ++ P.cells)) :
    DrS w (w6.setCell ⟨b, 2, none⟩ v') p b wd hg code k v' (ps ++ [P]) := by
  have hv : ∀ q, v.ownBlock = some q → b + 1 ≤ q := fun q hq => (h.own.lt q hq).1
  have h1 := h.alloc o
  have hb6 : w6.heap[b]? = _ := blk_kept h1.blk hgrow (fun e => by have := hv b e; omega)
  have hs6 : SrcAt w6 p code k := h1.src.grown hgrow (fun g e => by have := hv g e; omega)
  have hg6 : w.grownBy w6 (some p) := by
    cases hvb : v.ownBlock with
    | none => rw [hvb] at hgrow; exact grown_trans h1.grown ⟨hgrow.os, hgrow.tape, hgrow.output, hgrow.size, fun i hi _ => hgrow.block i hi (by simp)⟩
    | some q => rw [hvb] at hgrow; exact grown_new h1.grown hgrow (by have := hv q hvb; omega)
  have e : flat Pc.cells ps ++ P.cells = flat Pc.cells (ps ++ [P]) := by rw [flat_append]; simp [flat]
  rw [e] at hown
  refine ⟨three_set2 hb6, ?_, hs6.setNew hp v', grown_setNew hg6 hb v'⟩
  rw [List.length_append]
  exact own_kept hown (grown_set1 w6 b 2 v') (fun q hq e => by have := (hown.lt q hq).1; simp at e; omega)
end Go.Proofs.YtmeefmoblkiebaaGreat
/- Contracts: pushes that are drawn; the board and the pushes of the laws. -/
namespace Go.Proofs.YtmeefmoblkiebaaGreat
open Go.RowKit
set_option linter.unusedVariables false
set_option linter.unusedSimpArgs false
set_option maxHeartbeats 400000
set_option maxRecDepth 100000
theorem fnd_pc (ps : List Pc) (j : Nat) (hj : j < ps.length) : 0 ≤ fnd ⟨ps[j].x, ps[j].y⟩ ps := by
  unfold fnd
  cases hf : ps.findIdx? (fun q => decide (q.at_ = (⟨ps[j].x, ps[j].y⟩ : Ce))) with
  | none =>
    rw [List.findIdx?_eq_none_iff] at hf
    have := hf ps[j] (List.getElem_mem hj)
    simp [Pc.at_] at this
  | some k => exact Int.natCast_nonneg k
/-- A board whose memory lies below the source. -/
def BdP (w : World) (p b0 : Nat) (l : Bd) : Prop := b0 < p ∧ p < w.heap.size ∧ ∃ a cap, BdAt w b0 l.wd l.hg (.slice a l.ps.length cap) ∧ SlAt p w a (flat Pc.cells l.ps)
theorem BdP.step {w w' : World} {p b0 : Nat} {l : Bd} (h : BdP w p b0 l) (hg : w.grownBy w' (some p)) : BdP w' p b0 l := by
  obtain ⟨h1, h2, a, cap, h3, h4⟩ := h
  refine ⟨h1, Nat.lt_of_lt_of_le h2 hg.size, a, cap, ?_, h4.grownP (p := p) hg (by omega) (fun g e => by cases e; exact Nat.le_refl _)⟩
  have e : ∀ o, w'.cell? ⟨b0, o, none⟩ = w.cell? ⟨b0, o, none⟩ := fun o => World.cell?_of_block (a := ⟨b0, o, none⟩) (hg.block b0 (by omega) (fun e => by simp at e; omega))
  unfold BdAt at *
  rw [e, e, e]
  exact h3
/-- A push at a piece of the board. -/
def PuD (l : Bd) (q : Pu) : Prop := q.ok ∧ plainPu q = true ∧ 0 ≤ fnd ⟨q.x, q.y⟩ l.ps
/-- The pushes while they are drawn. -/
structure PuS (w wr : World) (p b0 : Nat) (l : Bd) (code : List Int) (k : Nat) (v : Value) (qs : List Pu) : Prop where
  bd : BdP wr p b0 l
  own : wr.ownsRow w.heap.size 89 4 v qs.length (flat Pu.cells qs)
  src : SrcAt wr p code k
  grown : w.grownBy wr (some p)
  pu : ∀ q ∈ qs, PuD l q
theorem PuS.le {w wr : World} {p b0 : Nat} {l : Bd} {code : List Int} {k k' : Nat} {v : Value} {qs : List Pu} (h : PuS w wr p b0 l code k v qs) (hk : k ≤ k') : PuS w wr p b0 l code k' v qs := ⟨h.bd, h.own, h.src.le hk, h.grown, h.pu⟩
theorem PuS.draw {w wr w' : World} {p b0 : Nat} {l : Bd} {code : List Int} {k k' : Nat} {v : Value} {qs : List Pu} (h : PuS w wr p b0 l code k v qs) (hp : p < w.heap.size) (hs : SrcAt w' p code k') (hg' : wr.grownBy w' (some p)) : PuS w w' p b0 l code k' v qs :=
  ⟨h.bd.step hg', own_kept h.own hg' (fun q hq e => by have := (h.own.lt q hq).1; simp at e; omega), hs, grown_trans h.grown hg', h.pu⟩
theorem PuS.alloc {w wr : World} {p b0 : Nat} {l : Bd} {code : List Int} {k : Nat} {v : Value} {qs : List Pu} (h : PuS w wr p b0 l code k v qs) (hp : p < w.heap.size) (o : Obj) : PuS w (wr.alloc o) p b0 l code k v qs :=
  h.draw hp h.src.alloc (World.grownBy_alloc wr o (some p))
theorem BdP.set {w : World} {p b0 q o : Nat} {l : Bd} (h : BdP w p b0 l) (hq : p < q) (u : Value) : BdP (w.setCell ⟨q, o, none⟩ u) p b0 l := by
  obtain ⟨h1, h2, a, cap, h3, h4⟩ := h
  have hg := grown_set1 w q o u
  refine ⟨h1, by simpa using h2, a, cap, ?_, h4.grownP (p := p) hg (by omega) (fun g e => by cases e; omega)⟩
  have e : ∀ i, (w.setCell ⟨q, o, none⟩ u).cell? ⟨b0, i, none⟩ = w.cell? ⟨b0, i, none⟩ := fun i => World.cell?_of_block (a := ⟨b0, i, none⟩) (hg.block b0 (by omega) (fun e => by simp at e; omega))
  unfold BdAt at *
  rw [e, e, e]
  exact h3
theorem PuS.set {w wr : World} {p b0 q o : Nat} {l : Bd} {code : List Int} {k : Nat} {v : Value} {qs : List Pu} (h : PuS w wr p b0 l code k v qs) (hp : p < w.heap.size) (hw : w.heap.size ≤ q) (hv : ∀ g, v.ownBlock = some g → g ≠ q) (u : Value) : PuS w (wr.setCell ⟨q, o, none⟩ u) p b0 l code k v qs :=
  ⟨h.bd.set (by omega) u, own_kept h.own (grown_set1 wr q o u) (fun g hg e => hv g hg (by simpa using e)), h.src.setNew (by omega) u, grown_setNew h.grown hw u, h.pu⟩
theorem PuS.own_lt {w wr : World} {p b0 : Nat} {l : Bd} {code : List Int} {k : Nat} {v : Value} {qs : List Pu} (h : PuS w wr p b0 l code k v qs) : ∀ g, v.ownBlock = some g → g < wr.heap.size := fun g hg => (h.own.lt g hg).2
theorem PuS.push {w wr w6 : World} {p b0 : Nat} {l : Bd} {code : List Int} {k : Nat} {v v' : Value} {qs : List Pu} {q : Pu} {o : Obj} (h : PuS w wr p b0 l code k v qs) (hp : p < w.heap.size) (hgrow : (wr.alloc o).grownBy w6 v.ownBlock) (hq : PuD l q) (hown : w6.ownsRow w.heap.size 89 4 v' (qs.length + 1) (flat Pu.cells qs ++ q.cells)) :
    PuS w w6 p b0 l code k v' (qs ++ [q]) := by
  have hv : ∀ q, v.ownBlock = some q → w.heap.size ≤ q := fun q hq => (h.own.lt q hq).1
  have h1 := h.alloc hp o
  have hs6 : SrcAt w6 p code k := h1.src.grown hgrow (fun g e => by have := hv g e; omega)
  have hg6 : w.grownBy w6 (some p) := by
    cases hvb : v.ownBlock with
    | none => rw [hvb] at hgrow; exact grown_trans h1.grown ⟨hgrow.os, hgrow.tape, hgrow.output, hgrow.size, fun i hi _ => hgrow.block i hi (by simp)⟩
    | some q => rw [hvb] at hgrow; exact grown_new h1.grown hgrow (by have := hv q hvb; omega)
  have hb6 : BdP w6 p b0 l := by
    obtain ⟨h1', h2', a, cap, h3, h4⟩ := h1.bd
    refine ⟨h1', Nat.lt_of_lt_of_le h2' hgrow.size, a, cap, ?_, h4.grownP (p := p) hgrow (by omega) (fun g e => by have := hv g e; omega)⟩
    have e : ∀ i, w6.cell? ⟨b0, i, none⟩ = (wr.alloc o).cell? ⟨b0, i, none⟩ := fun i => World.cell?_of_block (a := ⟨b0, i, none⟩) (hgrow.block b0 (by omega) (fun e => by have := hv b0 e.symm; omega))
    unfold BdAt at *
    rw [e, e, e]
    exact h3
  have e : flat Pu.cells qs ++ q.cells = flat Pu.cells (qs ++ [q]) := by rw [flat_append]; simp [flat]
  rw [e] at hown
  refine ⟨hb6, by rw [List.length_append]; exact hown, hs6, hg6, ?_⟩
  intro r hr
  rw [List.mem_append, List.mem_singleton] at hr
  rcases hr with hr | rfl
  · exact h.pu r hr
  · exact hq
end Go.Proofs.YtmeefmoblkiebaaGreat
/- Contracts: the board and the pushes that the laws draw. -/
namespace Go.Proofs.YtmeefmoblkiebaaGreat
open Go.RowKit
set_option linter.unusedVariables false
set_option linter.unusedSimpArgs false
set_option maxHeartbeats 400000
set_option maxRecDepth 100000
theorem below_of_grown {a w w' : World} {p : Nat} (h : Below a.heap.size a w) (hg : w.grownBy w' (some p)) (hp : a.heap.size ≤ p) : Below a.heap.size a w' := bl_grown h hg (fun k e => by cases e; exact hp)
end Go.Proofs.YtmeefmoblkiebaaGreat
/- Contracts: laws.a2Long, laws.a2At. -/
namespace Go.Proofs.YtmeefmoblkiebaaGreat
open Go.RowKit
set_option linter.unusedVariables false
set_option linter.unusedSimpArgs false
set_option maxHeartbeats 400000
set_option maxRecDepth 100000
end Go.Proofs.YtmeefmoblkiebaaGreat
/- Contracts: equal falls (spec.SameFalls). -/
namespace Go.Proofs.YtmeefmoblkiebaaGreat
open Go.RowKit
set_option linter.unusedVariables false
set_option linter.unusedSimpArgs false
set_option maxHeartbeats 400000
set_option maxRecDepth 100000
end Go.Proofs.YtmeefmoblkiebaaGreat
/- What the laws have drawn: a board, pushes, falls; rows of the call's own. -/
namespace Go.Proofs.YtmeefmoblkiebaaGreat
open Go.RowKit
set_option linter.unusedVariables false
set_option linter.unusedSimpArgs false
set_option maxHeartbeats 400000
set_option maxRecDepth 100000
/-- A box with three cells. -/
def Bx3 (w : World) (b : Nat) (v0 v1 v2 : Value) : Prop := b < w.heap.size ∧ w.cell? ⟨b, 0, none⟩ = some v0 ∧ w.cell? ⟨b, 1, none⟩ = some v1 ∧ w.cell? ⟨b, 2, none⟩ = some v2
theorem Bx3.step {w w' : World} {b : Nat} {v0 v1 v2 : Value} (h : Bx3 w b v0 v1 v2) (hb : Below w.heap.size w w') : Bx3 w' b v0 v1 v2 := by
  obtain ⟨h1, h2, h3, h4⟩ := h
  refine ⟨Nat.lt_of_lt_of_le h1 hb.size, ?_, ?_, ?_⟩
  all_goals
    rw [hb.cell (p := ⟨b, _, none⟩) h1]
    assumption
theorem Bx3.new (w : World) (v0 v1 v2 : Value) (T : TypeId) : Bx3 (w.alloc (.cells #[v0, v1, v2] T)) w.heap.size v0 v1 v2 := by
  have hh := heap_alloc_new w (.cells #[v0, v1, v2] T)
  refine ⟨by simp, ?_, ?_, ?_⟩ <;> (rw [cell_of_row _ _ _ _ _ _ hh]; rfl)
theorem flat_t (fs : List Fa) : ∀ (k : Nat) (hk : k < fs.length) (x : Int), (flat Fa.cells fs).set (k * 3) (.int .i64 x) = flat Fa.cells (fs.set k ⟨x, fs[k].f, fs[k].b⟩) := by
  induction fs with
  | nil => intro k hk; simp at hk
  | cons f fs ih =>
    intro k hk x
    cases k with
    | zero => simp [flat_cons, Fa.cells]
    | succ k =>
      have := ih k (by simpa using hk) x
      rw [show (k + 1) * 3 = k * 3 + 1 + 1 + 1 by omega]
      simp only [List.set_cons_succ, flat_cons, Fa.cells, List.cons_append, List.nil_append, List.getElem_cons_succ] at this ⊢
      rw [this]
theorem flat_b (fs : List Fa) : ∀ (k : Nat) (hk : k < fs.length) (x : Int), (flat Fa.cells fs).set (k * 3 + 2) (.int .i64 x) = flat Fa.cells (fs.set k ⟨fs[k].t, fs[k].f, x⟩) := by
  induction fs with
  | nil => intro k hk; simp at hk
  | cons f fs ih =>
    intro k hk x
    cases k with
    | zero => simp [flat_cons, Fa.cells]
    | succ k =>
      have := ih k (by simpa using hk) x
      rw [show (k + 1) * 3 + 2 = k * 3 + 2 + 1 + 1 + 1 by omega]
      simp only [List.set_cons_succ, flat_cons, Fa.cells, List.cons_append, List.nil_append, List.getElem_cons_succ] at this ⊢
      rw [this]
theorem small_set {fs : List Fa} {k : Nat} {f : Fa} (h : ∀ f ∈ fs, smallFa f) (hf : smallFa f) : ∀ x ∈ fs.set k f, smallFa x := by
  intro x hx
  rcases List.mem_or_eq_of_mem_set hx with hx | rfl
  · exact h x hx
  · exact hf
/-- A row of falls of the call's own, while it is turned. -/
structure WrS (u0 u : World) (g n gc : Nat) (ws : List Fa) : Prop where
  len : ws.length = n
  own : u.ownsRow u0.heap.size 43 3 (.slice (some ⟨g, 0, none⟩) n gc) n (flat Fa.cells ws)
  b : Below u0.heap.size u0 u
  small : ∀ f ∈ ws, smallFa f
theorem WrS.lt {u0 u : World} {g n gc : Nat} {ws : List Fa} (h : WrS u0 u g n gc ws) : u0.heap.size ≤ g ∧ g < u.heap.size := h.own.lt g rfl
theorem WrS.t {u0 u : World} {g n gc : Nat} {ws : List Fa} (h : WrS u0 u g n gc ws) (k : Nat) (hk : k < ws.length) (x : Int) (hx : -1 ≤ x ∧ x ≤ 2810) : WrS u0 (u.setCell ⟨g, k * 3, none⟩ (.int .i64 x)) g n gc (ws.set k ⟨x, ws[k].f, ws[k].b⟩) := by
  have hs := h.small ws[k] (List.getElem_mem hk)
  refine ⟨by rw [List.length_set, h.len], ?_, h.b.setCell h.lt.1 _, small_set h.small ⟨hx, hs.2⟩⟩
  rw [← flat_t ws k hk x]
  exact (h.own.stored _ _).1
theorem WrS.by_ {u0 u : World} {g n gc : Nat} {ws : List Fa} (h : WrS u0 u g n gc ws) (k : Nat) (hk : k < ws.length) (x : Int) (hx : -1 ≤ x ∧ x < 200) : WrS u0 (u.setCell ⟨g, k * 3 + 2, none⟩ (.int .i64 x)) g n gc (ws.set k ⟨ws[k].t, ws[k].f, x⟩) := by
  have hs := h.small ws[k] (List.getElem_mem hk)
  refine ⟨by rw [List.length_set, h.len], ?_, h.b.setCell h.lt.1 _, small_set h.small ⟨hs.1, hs.2.1, hx⟩⟩
  rw [← flat_b ws k hk x]
  exact (h.own.stored _ _).1
theorem WrS.drew {u0 u : World} {g n gc : Nat} {ws : List Fa} (h : WrS u0 u g n gc ws) (m : Nat) : WrS u0 (u.drewN m) g n gc ws :=
  ⟨h.len, own_kept (row := none) h.own ⟨rfl, rfl, rfl, Nat.le_refl _, fun _ _ _ => rfl⟩ (fun q hq => by simp), bl_drewN h.b, h.small⟩
theorem WrS.cells {u0 u : World} {g n gc : Nat} {ws : List Fa} (h : WrS u0 u g n gc ws) (k : Nat) (hk : k < ws.length) :
    u.cell? ⟨g, k * 3, none⟩ = some (.int .i64 ws[k].t) ∧ u.cell? ⟨g, k * 3 + 1, none⟩ = some (.int .i8 ws[k].f) ∧ u.cell? ⟨g, k * 3 + 2, none⟩ = some (.int .i64 ws[k].b) ∧ u.frozen? ⟨g, k * 3, none⟩ = false ∧ u.frozen? ⟨g, k * 3 + 1, none⟩ = false ∧ u.frozen? ⟨g, k * 3 + 2, none⟩ = false := by
  have hl := h.len
  refine ⟨?_, ?_, ?_, h.own.frozenAt _, h.own.frozenAt _, h.own.frozenAt _⟩
  · rw [h.own.cellAt (k * 3) (by omega)]
    exact flat_get Fa.len ws k 0 hk (by omega)
  · rw [h.own.cellAt (k * 3 + 1) (by omega)]
    exact flat_get Fa.len ws k 1 hk (by omega)
  · rw [h.own.cellAt (k * 3 + 2) (by omega)]
    exact flat_get Fa.len ws k 2 hk (by omega)
/-- What the law has drawn, and the falls that follow. -/
structure PfS (W w : World) (bx : Nat) (wd hg : Int) (s : Value) (ps : List Pc) (vq : Value) (qs : List Pu) (vf : Value) (fs : List Fa) (a1 : Option Addr) (more : List Int) : Prop where
  b : Below W.heap.size W w
  x : Bx3 w bx (.int .i8 wd) (.int .i8 hg) s
  p : PV w s ps
  q : SV Pu.cells w vq qs
  f : SV Fa.cells w vf fs
  m : SlAt w.heap.size w a1 (flat U8c more)
theorem PfS.step {W w w' : World} {bx : Nat} {wd hg : Int} {s : Value} {ps : List Pc} {vq : Value} {qs : List Pu} {vf : Value} {fs : List Fa} {a1 : Option Addr} {more : List Int} (h : PfS W w bx wd hg s ps vq qs vf fs a1 more) (hb : Below w.heap.size w w') : PfS W w' bx wd hg s ps vq qs vf fs a1 more :=
  ⟨bl_trans h.b hb, h.x.step hb, h.p.step hb, h.q.step hb, h.f.step hb, (h.m.below hb (Nat.le_refl _)).mono hb.size⟩
end Go.Proofs.YtmeefmoblkiebaaGreat
/- Contracts: boards that are moved (impl.MoveBoard), where all fits. -/
namespace Go.Proofs.YtmeefmoblkiebaaGreat
open Go.RowKit
set_option linter.unusedVariables false
set_option linter.unusedSimpArgs false
set_option maxHeartbeats 400000
set_option maxRecDepth 100000
theorem wrap8s (n : Int) (h : -100 ≤ n ∧ n ≤ 100) : IntKind.i8.wrap n = n := by simp [IntKind.wrap, IntKind.bits, IntKind.signed]; omega
theorem shifted_any (c : Ce) (e d : Int) (he : 0 ≤ e ∧ e ≤ 10) (hd : 0 ≤ d ∧ d ≤ 10) (hc : (0 ≤ c.x ∧ c.x ≤ 23) ∧ 0 ≤ c.y ∧ c.y ≤ 23) (w : World) :
    Calls Tryz.prog 94 #[c.val, .int .i64 e, .int .i64 d] w fun r w' => r = .returned (mvC e d c).val ∧ Below w.heap.size w w' := by
  obtain ⟨x, y⟩ := c
  simp only at hc
  have e1 := wrap8s e (by omega)
  have e2 := wrap8s d (by omega)
  have e3 := wrap8s (x + e) (by omega)
  have e4 := wrap8s (y + d) (by omega)
  go_enter Tryz.func94, Tryz.ntmps94
  go_wp2
  exact bodyPost_ret (v := .agg #[.int .i8 (x + e), .int .i8 (y + d)]) (by simp [results, Tryz.results94, go_sem]) rfl ⟨rfl, (by repeat (first | with_reducible exact Below.refl _ _ | with_reducible assumption | with_reducible apply bl_drewN | with_reducible apply bl_drew | with_reducible apply bl_alloc | (with_reducible refine bl_set ?_ (by first | (simp; done) | (simp; omega)) _) | with_reducible refine bl_trans ?_ (by with_reducible assumption)))⟩
/-- The pieces, the first k of them moved. -/
def mvTo (e d : Int) (ps : List Pc) (k : Nat) : List Pc := ps.mapIdx (fun i p => if i < k then mvPc e d p else p)
theorem mvTo_len (e d : Int) (ps : List Pc) (k : Nat) : (mvTo e d ps k).length = ps.length := List.length_mapIdx
theorem mvTo_get (e d : Int) (ps : List Pc) (k i : Nat) (h : i < (mvTo e d ps k).length) : (mvTo e d ps k)[i] = if i < k then mvPc e d (ps[i]'(by rw [mvTo_len] at h; exact h)) else ps[i]'(by rw [mvTo_len] at h; exact h) := List.getElem_mapIdx
theorem mvTo_zero (e d : Int) (ps : List Pc) : mvTo e d ps 0 = ps := by
  apply List.ext_getElem
  · exact mvTo_len e d ps 0
  · intro i h1 h2
    rw [mvTo_get, if_neg (by omega)]
theorem mvTo_all (e d : Int) (ps : List Pc) : mvTo e d ps ps.length = ps.map (mvPc e d) := by
  apply List.ext_getElem
  · rw [mvTo_len, List.length_map]
  · intro i h1 h2
    rw [mvTo_get, if_pos (by rw [mvTo_len] at h1; exact h1), List.getElem_map]
theorem mvTo_succ (e d : Int) (ps : List Pc) (k : Nat) (hk : k < ps.length) : mvTo e d ps (k + 1) = (mvTo e d ps k).set k (mvPc e d ps[k]) := by
  apply List.ext_getElem
  · rw [List.length_set, mvTo_len, mvTo_len]
  · intro i h1 h2
    rw [List.getElem_set, mvTo_get]
    by_cases hik : k = i
    · subst hik
      rw [if_pos rfl, if_pos (by omega)]
    · rw [if_neg hik, mvTo_get]
      by_cases hlt : i < k
      · rw [if_pos hlt, if_pos (by omega)]
      · rw [if_neg hlt, if_neg (by omega)]
theorem mvTo_at (e d : Int) (ps : List Pc) (k : Nat) (hk : k < ps.length) : (mvTo e d ps k)[k]'(by rw [mvTo_len]; exact hk) = ps[k] := by
  rw [mvTo_get, if_neg (by omega)]
theorem flat_xy (ps : List Pc) : ∀ (k : Nat) (hk : k < ps.length) (x y : Int), ((flat Pc.cells ps).set (k * 5) (.int .i8 x)).set (k * 5 + 1) (.int .i8 y) = flat Pc.cells (ps.set k ⟨x, y, ps[k].k, ps[k].t, ps[k].d⟩) := by
  induction ps with
  | nil => intro k hk; simp at hk
  | cons f fs ih =>
    intro k hk x y
    cases k with
    | zero => simp [flat_cons, Pc.cells]
    | succ k =>
      have := ih k (by simpa using hk) x y
      rw [show (k + 1) * 5 = k * 5 + 1 + 1 + 1 + 1 + 1 by omega, show k * 5 + 1 + 1 + 1 + 1 + 1 + 1 = k * 5 + 1 + 1 + 1 + 1 + 1 + 1 by rfl]
      simp only [List.set_cons_succ, flat_cons, Pc.cells, List.cons_append, List.nil_append, List.getElem_cons_succ] at this ⊢
      rw [this]
/-- Two cells of a piece of the call's own row are stored. -/
theorem pc_xy {w : World} {base g n cap : Nat} {ps : List Pc} (h : w.ownsRow base 49 5 (.slice (some ⟨g, 0, none⟩) n cap) n (flat Pc.cells ps)) (k : Nat) (hk : k < ps.length) (x y : Int) :
    ((w.setCell ⟨g, k * 5, none⟩ (.int .i8 x)).setCell ⟨g, k * 5 + 1, none⟩ (.int .i8 y)).ownsRow base 49 5 (.slice (some ⟨g, 0, none⟩) n cap) n (flat Pc.cells (ps.set k ⟨x, y, ps[k].k, ps[k].t, ps[k].d⟩)) := by
  have h1 := ((h.stored (k * 5) (.int .i8 x)).1.stored (k * 5 + 1) (.int .i8 y)).1
  rw [flat_xy ps k hk x y] at h1
  exact h1
theorem own_posM {w : World} {base : Nat} {e : TypeId} {size n : Nat} {v : Value} {xs : List Value} (h : w.ownsRow base e size v n xs) (hn : 0 < n) : ∃ g cap, v = .slice (some ⟨g, 0, none⟩) n cap ∧ base ≤ g ∧ g < w.heap.size := by
  have hl := h.lt
  rcases h.2 with ⟨-, h0⟩ | ⟨g, cap3, cur, hve, hg, -⟩
  · omega
  · subst hve
    exact ⟨g, cap3, rfl, hl g rfl⟩
theorem pc_own {w : World} {base g n cap : Nat} {ps : List Pc} (h : w.ownsRow base 49 5 (.slice (some ⟨g, 0, none⟩) n cap) n (flat Pc.cells ps)) (hn : n = ps.length) (k : Nat) (hk : k < ps.length) :
    (w.cell? ⟨g, k * 5, none⟩ = some (.int .i8 ps[k].x) ∧ w.cell? ⟨g, k * 5 + 1, none⟩ = some (.int .i8 ps[k].y)) ∧ w.frozen? ⟨g, k * 5, none⟩ = false ∧ w.frozen? ⟨g, k * 5 + 1, none⟩ = false := by
  refine ⟨⟨?_, ?_⟩, h.frozenAt _, h.frozenAt _⟩
  · rw [h.cellAt (k * 5) (by omega)]
    exact flat_get Pc.len ps k 0 hk (by omega)
  · rw [h.cellAt (k * 5 + 1) (by omega)]
    exact flat_get Pc.len ps k 1 hk (by omega)
/-- The worlds in which all blocks of W but one are as they were, and this one is a row of the call's own. -/
theorem LpK.cell {g : Nat} {a b : World} (h : LpK g a b) {q o : Nat} (hq : q < a.heap.size) (hg : q ≠ g) : b.cell? ⟨q, o, none⟩ = a.cell? ⟨q, o, none⟩ := h.2 ⟨q, o, none⟩ hq hg
def HpK (g : Nat) (a b : World) : Prop := a.heap.size ≤ b.heap.size ∧ ∀ q, q < a.heap.size → q ≠ g → b.heap[q]? = a.heap[q]?
theorem HpK.refl (g : Nat) (a : World) : HpK g a a := ⟨Nat.le_refl _, fun _ _ _ => rfl⟩
theorem HpK.set {g : Nat} {a b : World} (h : HpK g a b) (j : Nat) (v : Value) : HpK g a (b.setCell ⟨g, j, none⟩ v) :=
  ⟨by have h1 := h.1; simpa using h1, fun q hq hg => (heap_setCell_other b ⟨g, j, none⟩ q v hg).trans (h.2 q hq hg)⟩
theorem HpK.below {g : Nat} {a b c : World} (h : HpK g a b) (k : Below b.heap.size b c) : HpK g a c :=
  ⟨Nat.le_trans h.1 k.size, fun q hq hg => (k.block q (Nat.lt_of_lt_of_le hq h.1)).trans (h.2 q hq hg)⟩
theorem HpK.cell {g : Nat} {a b : World} (h : HpK g a b) {q o : Nat} (hq : q < a.heap.size) (hg : q ≠ g) : b.cell? ⟨q, o, none⟩ = a.cell? ⟨q, o, none⟩ := by
  have h1 := h.2 q hq hg
  unfold World.cell?
  simp only [h1]
set_option maxHeartbeats 1600000 in
theorem moveBoard_ok (wd hg : Int) (s : Value) (ps : List Pc) (e d : Int) (w : World) (hps : PV w s ps) (hok : (Bd.mk wd hg ps).ok) (hv : vBd ⟨wd, hg, ps⟩ = true) (hn : ps.length ≤ 60) (he : 0 ≤ e ∧ e ≤ 10) (hd : 0 ≤ d ∧ d ≤ 10) (h0 : 0 < ps.length)
    (hin : ∀ i (hi : i < ps.length), ((0 ≤ ps[i].x ∧ ps[i].x ≤ 23) ∧ 0 ≤ ps[i].y ∧ ps[i].y ≤ 23) ∧ ps[i].x + e < wd ∧ ps[i].y + d < hg) :
    Calls Tryz.prog 93 #[bdv wd hg s, .int .i64 e, .int .i64 d] w fun r w' => ∃ v, r = .returned (.tuple #[bdv wd hg v, .int .i64 0]) ∧ w'.ownsRow w.heap.size 49 5 v ps.length (flat Pc.cells (ps.map (mvPc e d))) ∧ Below w.heap.size w w' := by
  obtain ⟨a, cap, rfl, hps⟩ := hps
  obtain ⟨W2, hW2⟩ : ∃ W2, W2 = (w.alloc (.cells #[.int .i8 wd, .int .i8 hg, .slice a ps.length cap] 27)).alloc (.cells #[.int .i8 0, .int .i8 0, .slice none 0 0] 27) := ⟨_, rfl⟩
  have B02 : Below w.heap.size w W2 := by rw [hW2]; exact bl_alloc (bl_alloc (Below.refl _ _))
  have z2 : w.heap.size + 1 < W2.heap.size := by rw [hW2]; simp
  have q0 : W2.heap[w.heap.size]? = some (.cells #[.int .i8 wd, .int .i8 hg, .slice a ps.length cap] 27 (0, 0)) := by
    rw [hW2]
    have h9 := bl_alloc (o := .cells #[.int .i8 0, .int .i8 0, .slice none 0 0] 27) (Below.refl (w.alloc (.cells #[.int .i8 wd, .int .i8 hg, .slice a ps.length cap] 27)).heap.size (w.alloc (.cells #[.int .i8 wd, .int .i8 hg, .slice a ps.length cap] 27)))
    rw [h9.block w.heap.size (by simp)]
    exact heap_alloc_new _ _
  have q1 : W2.heap[w.heap.size + 1]? = some (.cells #[.int .i8 0, .int .i8 0, .slice none 0 0] 27 (0, 0)) := by
    rw [hW2]
    have := heap_alloc_new (w.alloc (.cells #[.int .i8 wd, .int .i8 hg, .slice a ps.length cap] 27)) (.cells #[.int .i8 0, .int .i8 0, .slice none 0 0] 27)
    simpa using this
  have HPS := Lib.hid (fun u (hb : Below w.heap.size w u) => hps.below hb (Nat.le_refl _))
  have HVB := Lib.hid (validBoard_any wd hg a cap ps W2 ((HPS.out W2 B02).mono B02.size) hok (by omega))
  have hie : inB e (-24) 24 = true := by simp [inB]; omega
  have hid' : inB d (-24) 24 = true := by simp [inB]; omega
  have HIE := Lib.hid hie
  have HID := Lib.hid hid'
  have HV := Lib.hid hv
  have HQ0 := Lib.hid q0
  have HQ1 := Lib.hid q1
  have HB02 := Lib.hid B02
  obtain ⟨x0, x1, x2, xf⟩ := three_cells q0
  clear hie hid' hv q0 q1 B02 hps
  go_enter Tryz.func93, Tryz.ntmps93
  go_upto_region 1 with fail
  rw [← hW2]
  clear hW2
  go_wp2_with fail
  refine HVB.out.mono ?_
  rintro r W3 ⟨rfl, hb3⟩
  rw [HV.out]
  have HB03 := Lib.hid (bl_trans HB02.out hb3)
  have q0 := (hb3.block w.heap.size (by omega)).trans HQ0.out
  have q1 := (hb3.block (w.heap.size + 1) z2).trans HQ1.out
  have z3 := hb3.size
  clear x0 x1 x2 xf hb3 HVB HQ0 HQ1 HB02
  go_wp2_with fail
  refine (in_any _ _ _ _).mono ?_
  rintro r w' ⟨rfl, rfl⟩
  rw [HIE.out]
  go_wp2_with fail
  refine (in_any _ _ _ _).mono ?_
  rintro r w' ⟨rfl, rfl⟩
  rw [HID.out]
  obtain ⟨x0, x1, x2, xf⟩ := three_cells q0
  have HCL := Lib.hid (clonePc_any (B := w.heap.size) a cap ps W3 (HPS.out W3 HB03.out) (by omega) (by omega))
  have HQ0 := Lib.hid q0
  have HQ1 := Lib.hid q1
  clear q0 q1
  go_wp2_with fail
  refine HCL.out.mono ?_
  rintro r W4 ⟨v1, rfl, hown, hb4⟩
  obtain ⟨g, gc, rfl, hg3, hg4⟩ := own_posM hown h0
  have HB04 := Lib.hid (bl_trans HB03.out hb4)
  have q0 := (hb4.block w.heap.size (by omega)).trans HQ0.out
  have q1 := (hb4.block (w.heap.size + 1) (by omega)).trans HQ1.out
  have z4 := hb4.size
  clear x0 x1 x2 xf hb4 HQ0 HQ1 HCL HB03
  obtain ⟨x0, x1, x2, xf⟩ := three_cells q0
  have hbp : BP W4 w.heap.size ⟨wd, hg, ps⟩ := ⟨by omega, _, ⟨x0, x1, x2⟩, a, cap, rfl, (HPS.out W4 HB04.out).mono HB04.out.size⟩
  have HWI := Lib.hid (with_any w.heap.size ⟨wd, hg, ps⟩ (some ⟨g, 0, none⟩) ps.length gc W4 hbp)
  have HOWN := Lib.hid hown
  have HQ0 := Lib.hid q0
  have HQ1 := Lib.hid q1
  clear x0 x1 x2 xf hbp hown q0 q1
  go_wp2_with fail
  refine HWI.out.mono ?_
  rintro r W5 ⟨rfl, hb5⟩
  have hb56 : Below W5.heap.size W5 (W5.alloc (.cells #[.int .i8 wd, .int .i8 hg, .slice (some ⟨g, 0, none⟩) ps.length gc] 27)) := bl_alloc (Below.refl _ _)
  have hb46 := bl_trans hb5 hb56
  have HX : Hid (Bx3 (W5.alloc (.cells #[.int .i8 wd, .int .i8 hg, .slice (some ⟨g, 0, none⟩) ps.length gc] 27)) W5.heap.size (.int .i8 wd) (.int .i8 hg) (.slice (some ⟨g, 0, none⟩) ps.length gc)) := Lib.hid (Bx3.new _ _ _ _ _)
  have hown6 := own_below HOWN.out hb46 (Nat.le_refl _)
  have q0 := (hb46.block w.heap.size (by omega)).trans HQ0.out
  have q1 := (hb46.block (w.heap.size + 1) (by omega)).trans HQ1.out
  have hb06 := bl_trans HB04.out hb46
  have z5 := hb5.size
  obtain ⟨bx, hbx⟩ : ∃ bx, bx = W5.heap.size := ⟨_, rfl⟩
  obtain ⟨W6, hW6⟩ : ∃ W6, W6 = W5.alloc (.cells #[.int .i8 wd, .int .i8 hg, .slice (some ⟨g, 0, none⟩) ps.length gc] 27) := ⟨_, rfl⟩
  rw [← hW6] at HX hown6 q0 q1 hb06
  rw [← hbx] at HX
  have hgx : g < bx := by omega
  have HQ0 := Lib.hid q0
  have HQ1 := Lib.hid q1
  have HO6 := Lib.hid hown6
  have HB06 := Lib.hid hb06
  clear hb56 hb46 hb5 HWI HOWN HB04 q0 q1 hown6 hb06
  obtain ⟨y0, y1, y2, y3⟩ := HX.out
  go_upto_region 6 with fail
  rw [← hW6, ← hbx]
  clear hW6 hbx
  go_wp2_with fail
  clear y1 y2 y3
  go_loopw [33] (fun i wr => ∃ k : Nat, k ≤ ps.length ∧ i = .int .i64 (k : Int) ∧ HpK g W6 wr ∧ wr.ownsRow W3.heap.size 49 5 (.slice (some ⟨g, 0, none⟩) ps.length gc) ps.length (flat Pc.cells (mvTo e d ps k)) ∧ Below w.heap.size w wr) (fun i _ => ps.length - (intOf i).toNat)
  case atStart => exact ⟨0, by omega, rfl, HpK.refl _ _, by rw [mvTo_zero]; exact HO6.out, HB06.out⟩
  case round =>
    obtain ⟨k, hk, rfl, hlp, hown, hbw⟩ := hrel
    obtain ⟨W7, hW7⟩ : ∃ W7, W7 = wr := ⟨_, rfl⟩
    subst hW7
    have HBP : Hid (BP W7 w.heap.size ⟨wd, hg, ps⟩ ∧ ∀ o, W7.cell? ⟨bx, o, none⟩ = W6.cell? ⟨bx, o, none⟩) := Lib.hid (by
      obtain ⟨x0, x1, x2, -⟩ := three_cells HQ0.out
      refine ⟨⟨?_, _, ⟨?_, ?_, ?_⟩, a, cap, rfl, (HPS.out W7 hbw).mono hbw.size⟩, fun o => hlp.cell y0 (by omega)⟩
      · exact Nat.lt_of_lt_of_le (lt_of_block HQ0.out) hlp.1
      · rw [hlp.cell (lt_of_block HQ0.out) (by omega)]; exact x0
      · rw [hlp.cell (lt_of_block HQ0.out) (by omega)]; exact x1
      · rw [hlp.cell (lt_of_block HQ0.out) (by omega)]; exact x2)
    have hX2 : W7.cell? ⟨bx, 2, none⟩ = some (.slice (some ⟨g, 0, none⟩) ps.length gc) := by rw [HBP.out.2]; exact HX.out.2.2.2
    have HLP := Lib.hid hlp
    have HOW := Lib.hid hown
    have HBW := Lib.hid hbw
    clear hlp hown hbw
    by_cases hlt : (k : Int) < (ps.length : Int)
    · have hlt' : k < ps.length := by omega
      obtain ⟨⟨c0, c1⟩, f0, f1⟩ := pc_own HOW.out (mvTo_len e d ps k).symm k (by rw [mvTo_len]; exact hlt')
      rw [mvTo_at e d ps k hlt'] at c0 c1
      obtain ⟨P, hP⟩ : ∃ P, P = ps[k] := ⟨_, rfl⟩
      have hinP : ((0 ≤ P.x ∧ P.x ≤ 23) ∧ 0 ≤ P.y ∧ P.y ≤ 23) ∧ P.x + e < wd ∧ P.y + d < hg := by rw [hP]; exact hin k hlt'
      rw [← hP] at c0 c1
      have HSH := Lib.hid (shifted_any ⟨P.x, P.y⟩ e d he hd hinP.1 W7)
      have HPP := Lib.hid hP
      clear hP
      go_wp2_with fail
      refine HSH.out.mono ?_
      rintro r W8 ⟨rfl, hb8⟩
      obtain ⟨hc8, hf8⟩ := bcell hb8
      have hgW : g < W7.heap.size := (HOW.out.lt g rfl).2
      have c0' : W8.cell? ⟨g, k * 5, none⟩ = some (.int .i8 P.x) := by rw [hc8 _ _ hgW]; exact c0
      have c1' : W8.cell? ⟨g, k * 5 + 1, none⟩ = some (.int .i8 P.y) := by rw [hc8 _ _ hgW]; exact c1
      have f0' : W8.frozen? ⟨g, k * 5, none⟩ = false := by rw [hf8 _ _ hgW]; exact f0
      have f1' : W8.frozen? ⟨g, k * 5 + 1, none⟩ = false := by rw [hf8 _ _ hgW]; exact f1
      have hown8 := pc_xy (own_below HOW.out hb8 (Nat.le_refl _)) k (by rw [mvTo_len]; exact hlt') (P.x + e) (P.y + d)
      have hset : (mvTo e d ps k).set k ⟨P.x + e, P.y + d, ((mvTo e d ps k)[k]'(by rw [mvTo_len]; exact hlt')).k, ((mvTo e d ps k)[k]'(by rw [mvTo_len]; exact hlt')).t, ((mvTo e d ps k)[k]'(by rw [mvTo_len]; exact hlt')).d⟩ = mvTo e d ps (k + 1) := by
        rw [mvTo_succ e d ps k hlt']
        congr 1
        rw [mvTo_at e d ps k hlt', HPP.out]
        rfl
      rw [hset] at hown8
      have HO8 := Lib.hid hown8
      have HLP8 := Lib.hid (((HLP.out.below hb8).set (k * 5) (.int .i8 (P.x + e))).set (k * 5 + 1) (.int .i8 (P.y + d)))
      have hgw : w.heap.size ≤ g := by omega
      have HBW8 := Lib.hid (bl_set (bl_set (bl_trans HBW.out hb8) (p := ⟨g, k * 5, none⟩) hgw (.int .i8 (P.x + e))) (p := ⟨g, k * 5 + 1, none⟩) hgw (.int .i8 (P.y + d)))
      clear c0 c1 f0 f1 hc8 hf8 hown8 hset HSH hX2
      have hbxg : bx ≠ g := by omega
      go_upto_region 11 with fail
      rw [show (mvC e d ⟨P.x, P.y⟩).x = P.x + e from rfl, show (mvC e d ⟨P.x, P.y⟩).y = P.y + d from rfl]
      obtain ⟨W9, hW9⟩ : ∃ W9, W9 = (W8.setCell ⟨g, k * 5, none⟩ (.int .i8 (P.x + e))).setCell ⟨g, k * 5 + 1, none⟩ (.int .i8 (P.y + d)) := ⟨_, rfl⟩
      rw [← hW9] at HO8 HLP8 HBW8 ⊢
      clear hW9 c0' c1' f0' f1'
      obtain ⟨⟨c0, c1⟩, -, -⟩ := pc_own HO8.out (mvTo_len e d ps (k + 1)).symm k (by rw [mvTo_len]; exact hlt')
      rw [mvTo_get, if_pos (by omega), ← HPP.out] at c0 c1
      have c0x : W9.cell? ⟨g, k * 5, none⟩ = some (.int .i8 (P.x + e)) := c0
      have c1x : W9.cell? ⟨g, k * 5 + 1, none⟩ = some (.int .i8 (P.y + d)) := c1
      have hbp9 : BP W9 w.heap.size ⟨wd, hg, ps⟩ := by
        obtain ⟨x0, x1, x2, -⟩ := three_cells HQ0.out
        refine ⟨Nat.lt_of_lt_of_le (lt_of_block HQ0.out) HLP8.out.1, _, ⟨?_, ?_, ?_⟩, a, cap, rfl, (HPS.out W9 HBW8.out).mono HBW8.out.size⟩
        · rw [HLP8.out.cell (lt_of_block HQ0.out) (by omega)]; exact x0
        · rw [HLP8.out.cell (lt_of_block HQ0.out) (by omega)]; exact x1
        · rw [HLP8.out.cell (lt_of_block HQ0.out) (by omega)]; exact x2
      have HHA := Lib.hid (has_any w.heap.size ⟨wd, hg, ps⟩ ⟨P.x + e, P.y + d⟩ W9 hbp9)
      have HCI : Hid (cIn wd hg ⟨P.x + e, P.y + d⟩ = true) := Lib.hid (by
        unfold cIn inB
        simp only [Bool.and_eq_true, decide_eq_true_eq]
        omega)
      clear c0 c1 hbp9
      go_wp2_with fail
      refine HHA.out.mono ?_
      rintro r W10 ⟨rfl, hb10⟩
      rw [HCI.out]
      have HL10 := Lib.hid (HLP8.out.below hb10)
      have HO10 := Lib.hid (own_below HO8.out hb10 (Nat.le_refl _))
      have HB10 := Lib.hid (bl_trans HBW8.out hb10)
      clear hb10 c0x c1x HLP8 HO8 HBW8 HHA HLP HOW HBW HBP
      go_wp2_with fail
      go_roundw
      case rel => exact ⟨k + 1, by omega, by go_num, HL10.out, HO10.out, HB10.out⟩
      case measure => simp [intOf]; omega
    · have hkl : k = ps.length := by omega
      have q1 : W7.heap[w.heap.size + 1]? = some (.cells #[.int .i8 0, .int .i8 0, .slice none 0 0] 27 (0, 0)) := (HLP.out.2 _ (lt_of_block HQ1.out) (by omega)).trans HQ1.out
      obtain ⟨z0, z1, z2', zf⟩ := three_cells q1
      have y1 : W7.cell? ⟨bx, 0, none⟩ = some (.int .i8 wd) := by rw [HBP.out.2]; exact HX.out.2.1
      have y2 : W7.cell? ⟨bx, 1, none⟩ = some (.int .i8 hg) := by rw [HBP.out.2]; exact HX.out.2.2.1
      have hown := HOW.out
      rw [hkl, mvTo_all] at hown
      have HOE := Lib.hid hown
      clear hown
      go_wp2_with fail
      have hh := set_block (set_block (set_block q1 0 (.int .i8 wd)) 1 (.int .i8 hg)) 2 (.slice (some ⟨g, 0, none⟩) ps.length gc)
      obtain ⟨u0, u1, u2, -⟩ := three_cells hh
      have hgne : ∀ q, (Value.slice (some ⟨g, 0, none⟩) ps.length gc).ownBlock = some q → some q ≠ some (w.heap.size + 1) := fun q hq e => by
        have h9 : some g = some q := hq
        cases h9
        simp at e
        omega
      refine bodyPost_ret (v := .tuple #[bdv wd hg (.slice (some ⟨g, 0, none⟩) ps.length gc), .int .i64 0]) (by simp [results, Tryz.results93, go_sem, u0, u1, u2]) rfl ⟨_, rfl, ?_, ?_⟩
      · exact own_mono (own_kept (own_kept (own_kept HOE.out (grown_set1 _ _ 0 _) hgne) (grown_set1 _ _ 1 _) hgne) (grown_set1 _ _ 2 _) hgne) (by omega)
      · have HBE := HBW.out
        exact bl_set (bl_set (bl_set HBE (by show w.heap.size ≤ w.heap.size + 1; omega) _) (by show w.heap.size ≤ w.heap.size + 1; omega) _) (by show w.heap.size ≤ w.heap.size + 1; omega) _
end Go.Proofs.YtmeefmoblkiebaaGreat
/- Contracts: slices.Delete of one piece. -/
namespace Go.Proofs.YtmeefmoblkiebaaGreat
open Go.RowKit
set_option linter.unusedVariables false
set_option linter.unusedSimpArgs false
set_option maxHeartbeats 400000
set_option maxRecDepth 100000
theorem zeroPc (w : World) : (zeroValue 49).run Tryz.prog w = .ok (Pc.val ⟨0, 0, 0, 0, 0⟩) w := by kernel_rfl
theorem Pc.one0 : ∀ u ∈ (Pc.val ⟨0, 0, 0, 0, 0⟩).cells.toList, u.oneCell' = true := by
  intro u hu
  have e : (Pc.val ⟨0, 0, 0, 0, 0⟩).cells.toList = [.int .i8 0, .int .i8 0, .int .i8 0, .int .i8 0, .int .i8 0] := by rfl
  rw [e] at hu
  simp only [List.mem_cons, List.not_mem_nil, or_false] at hu
  rcases hu with rfl | rfl | rfl | rfl | rfl <;> rfl
theorem split_at (ps : List Pc) (i : Nat) (hi : i < ps.length) : ps = ps.take i ++ (ps[i] :: ps.drop (i + 1)) := by
  rw [← List.drop_eq_getElem_cons hi, List.take_append_drop]
theorem erase_eq (ps : List Pc) (i : Nat) : ps.eraseIdx i = ps.take i ++ ps.drop (i + 1) := List.eraseIdx_eq_take_drop_succ ps i
set_option maxHeartbeats 1600000 in
theorem deletePc_any (base g n k cap i : Nat) (ps : List Pc) (w : World) (hi : i ≤ k) (hk : k ≤ 10000) (hnk : n ≤ k + 1) (hnk2 : k + 1 ≤ n) (hn : ps.length = n) (h : w.ownsRow base 49 5 (.slice (some ⟨g, 0, none⟩) n cap) n (flat Pc.cells ps)) :
    Calls Tryz.prog 138 #[.slice (some ⟨g, 0, none⟩) n cap, .int .i64 i, .int .i64 ((i : Int) + 1)] w fun e w' => e = .returned (.slice (some ⟨g, 0, none⟩) k cap) ∧ w'.ownsRow base 49 5 (.slice (some ⟨g, 0, none⟩) k cap) k (flat Pc.cells (ps.eraseIdx i)) ∧ w.grownBy w' (some g) := by
  obtain ⟨i0, hi0, hz0, hz1, hz2⟩ := info_parts Tryz.infoPiece
  have hin : i < ps.length := by omega
  have hcap : n ≤ cap := by obtain ⟨a', cap', he, -, h', -⟩ := own_at h; cases he; exact h'
  have hmax : cap ≤ 9223372036854775807 := by
    rcases h.2 with ⟨h', -⟩ | ⟨g', cap', cur, h', -, -, -, hm, -⟩
    · cases h'
    · cases h'; unfold maxLen at hm; omega
  have HO := Lib.hid h
  have HE := Lib.hid (erase_eq ps i)
  have hsp := split_at ps i hin
  obtain ⟨p, hp⟩ : ∃ p, p = ps[i] := ⟨_, rfl⟩
  rw [← hp] at hsp
  obtain ⟨M, hM⟩ : ∃ M, M = ps.drop (i + 1) := ⟨_, rfl⟩
  have hMl : M.length = k - i := by rw [hM, List.length_drop]; omega
  have HSP : Hid (flat Pc.cells ps = flat Pc.cells (ps.take i) ++ flat Pc.cells (p :: M)) := Lib.hid (by rw [hM, ← flat_append, ← hsp])
  have HFL : Hid ((flat Pc.cells (ps.take i)).length = i * 5) := Lib.hid (by rw [flat_length Pc.len, List.length_take, Nat.min_eq_left (by omega)])
  -- where the second part begins
  obtain ⟨A, hA, hnews⟩ : ∃ A : Addr, (if cap = i + 1 then some (⟨g, 0, none⟩ : Addr) else some ⟨g, (i + 1) * 5, none⟩) = some A ∧ Hid (∀ j u, (flat Pc.cells M)[j]? = some u → w.drew.cell? (A.add j) = some u) := by
    by_cases hc : cap = i + 1
    · refine ⟨⟨g, 0, none⟩, by simp [hc], fun j u hu => ?_⟩
      have h0 : M = [] := List.length_eq_zero_iff.1 (by omega)
      rw [h0] at hu
      simp [flat] at hu
    · refine ⟨⟨g, (i + 1) * 5, none⟩, by simp [hc], fun j u hu => ?_⟩
      have hj : j < (flat Pc.cells M).length := (List.getElem?_eq_some_iff.1 hu).1
      rw [flat_length Pc.len, hMl] at hj
      rw [Addr.add_lit]
      show w.cell? _ = _
      rw [h.cellAt ((i + 1) * 5 + j) (by omega), HSP.out, List.getElem?_append_right (by rw [HFL.out]; omega), HFL.out, flat_cons, List.getElem?_append_right (by rw [Pc.len]; omega), Pc.len]
      rw [← hu]
      congr 1
      omega
  have s1 : Hid ((flat Pc.cells M).length = (k - i) * 5) := Lib.hid (by rw [flat_length Pc.len, hMl])
  have s2 : Hid (∀ u ∈ flat Pc.cells M, u.oneCell' = true) := Lib.hid (one_cells Pc.one M)
  have s3 : Hid (∀ j, j < (flat Pc.cells M).length → (w.drew.cell? ⟨g, 0 + i * 5 + j, none⟩).isSome = true ∧ w.drew.frozen? ⟨g, 0 + i * 5 + j, none⟩ = false) := Lib.hid (by
    intro j hj
    rw [flat_length Pc.len, hMl] at hj
    obtain ⟨⟨v, hv⟩, hf⟩ := own_cell h (j := 0 + i * 5 + j) (by omega)
    exact ⟨by show (w.cell? _).isSome = true; rw [hv]; rfl, hf⟩)
  have hkk : i + (k - i) = k := by omega
  have hown := own_setCells (flat Pc.cells M) (A := flat Pc.cells (ps.take i)) (R := flat Pc.cells (p :: M)) (j := i * 5) (w := w.drew) (by rw [← HSP.out]; exact own_below h (bl_drew (Below.refl _ _)) (Nat.le_refl _)) HFL.out (by rw [flat_cons, List.length_append]; omega)
  rw [← flat_append] at hown
  have hgr := grown_setCells g (flat Pc.cells M) w.drew (i * 5)
  rw [← setCells_same] at hown hgr
  have HW := Lib.hid (And.intro hown (grown_trans (show w.grownBy w.drew (some g) from ⟨rfl, rfl, rfl, Nat.le_refl _, fun _ _ _ => rfl⟩) hgr))
  have HAL : Hid ((flat Pc.cells (ps.take i ++ M)).length = k * 5) := Lib.hid (by rw [flat_length Pc.len, List.length_append, hMl, List.length_take, Nat.min_eq_left (by omega), hkk])
  have heq : (((i : Int) == (i : Int) + 1)) = false := by simp; omega
  have hwr : IntKind.i64.wrap ((i : Int) + 1) = (i : Int) + 1 := by rw [IntKind.wrap_i64]; omega
  have hp0 : (0 : Int) ≤ (i : Int) + 1 := by omega
  have hp1 : (i : Int) + 1 ≤ (n : Int) := by omega
  have hp2 : ((i : Int) + 1).toNat = i + 1 := by omega
  have hp3 : n - (i + 1) = k - i := by omega
  have hic : i ≤ cap := by omega
  have hic2 : (i : Int) ≤ cap := by omega
  have hic3 : (0 : Int) ≤ i := by omega
  rw [HE.out, ← hM]
  clear h hown hgr hp hM hMl hsp hn hin
  go_enter Tryz.func138, Tryz.ntmps138
  go_wp2
  go_region_law (refine step_append_room rfl (.tmp 22) (.tmp 25) 25 rfl 49 i0 5 Tryz.underlying25 hi0 hz1 g 0 i cap (by simp [Act.eval, Act.put]) A (k - i) (cap - (i + 1)) (flat Pc.cells M) (by simp [Act.eval, Act.put]) s1.out hnews.out s2.out (by omega) s3.out ?_)
  obtain ⟨W, hW⟩ : ∃ W, W = w.drew.setCells g (i * 5) (flat Pc.cells M) := ⟨_, rfl⟩
  rw [← hW] at HW
  obtain ⟨w3, hcl, hown3, hgr3⟩ := own_clear (P := Tryz.prog) (ty := 0) (c := cap - k) Tryz.underlying25 zeroPc (by rfl) Pc.one0 HW.out.1 HAL.out (by omega) (by omega)
  rw [show n - k = 1 by omega] at hcl
  have HF := Lib.hid (And.intro hown3 (grown_trans HW.out.2 hgr3))
  have hkI : (k : Int) ≤ n := by omega
  have hkI0 : (0 : Int) ≤ k := by omega
  have hkn : n - k = 1 := by omega
  have hkc : k ≤ cap := by omega
  rw [← hW]
  clear hW hown3 hgr3 hwr hp0 hp1 hp2 hp3 heq hic2 hic3
  go_wp2
  go_ret
  exact ⟨rfl, HF.out.1, HF.out.2⟩
end Go.Proofs.YtmeefmoblkiebaaGreat
/- Contracts: a board without a piece (the program). -/
namespace Go.Proofs.YtmeefmoblkiebaaGreat
open Go.RowKit
set_option linter.unusedVariables false
set_option linter.unusedSimpArgs false
set_option maxHeartbeats 400000
set_option maxRecDepth 100000
theorem less_any (b0 : Nat) (l : Bd) (i : Nat) (w : World) (h : BP w b0 l) (hi : i < l.ps.length) (hn : l.ps.length ≤ 10000) :
    Calls Tryz.prog 85 #[.pointer (some ⟨b0, 0, none⟩), .int .i64 i] w fun e w' => ∃ v, e = .returned (bdv l.wd l.hg v) ∧ w'.ownsRow w.heap.size 49 5 v (l.ps.eraseIdx i).length (flat Pc.cells (l.ps.eraseIdx i)) ∧ Below w.heap.size w w' := by
  have HB := Lib.hid (fun w1 (hb : Below w.heap.size w w1) => h.step hb)
  have HLE : Hid ((l.ps.eraseIdx i).length = l.ps.length - 1) := Lib.hid (by rw [List.length_eraseIdx, if_pos hi])
  obtain ⟨hbl, s, ⟨c0, c1, c2⟩, a, cap, rfl, hps⟩ := h
  have e2 : (w.alloc (.cells #[.int .i8 0, .int .i8 0, .slice none 0 0] 27)).cell? ⟨b0, 2, none⟩ = some (.slice a l.ps.length cap) := by rw [cell_alloc _ _ _ _ hbl]; exact c2
  have hb1 : Below w.heap.size w (w.alloc (.cells #[.int .i8 0, .int .i8 0, .slice none 0 0] 27)) := bl_alloc (Below.refl _ _)
  have hz1 : (w.alloc (.cells #[.int .i8 0, .int .i8 0, .slice none 0 0] 27)).heap.size = w.heap.size + 1 := by simp
  have HX := Lib.hid (BF3.new w (.int .i8 0) (.int .i8 0) (.slice none 0 0) 27)
  obtain ⟨k, hk⟩ : ∃ k, k = l.ps.length - 1 := ⟨_, rfl⟩
  rw [← hk] at HLE
  have hk1 : l.ps.length ≤ k + 1 := by omega
  have hk2 : k + 1 ≤ l.ps.length := by omega
  have hk3 : l.ps.length = k + 1 := by omega
  have HK3 := Lib.hid hk3
  have HCL := Lib.hid (fun w1 (hb : Below w.heap.size w w1) => clonePc_any (B := w.heap.size) a cap l.ps w1 (hps.below hb (Nat.le_refl _)) hb.size (by omega))
  clear hk hk3
  have hwr : IntKind.i64.wrap ((i : Int) + 1) = (i : Int) + 1 := by rw [IntKind.wrap_i64]; omega
  go_enter Tryz.func85, Tryz.ntmps85
  go_wp2_with fail
  obtain ⟨w1, hw1⟩ : ∃ w1, w1 = w.alloc (.cells #[.int .i8 0, .int .i8 0, .slice none 0 0] 27) := ⟨_, rfl⟩
  rw [← hw1] at e2 hb1 hz1 HX ⊢
  obtain ⟨g, hg⟩ : ∃ g, g = w.heap.size := ⟨_, rfl⟩
  rw [← hg] at HX ⊢
  have HB1 := Lib.hid hb1
  have HG := Lib.hid hg
  clear hw1 hg hb1
  refine (HCL.out _ HB1.out).mono ?_
  rintro e w2 ⟨v2, rfl, hown2, hb2⟩
  rw [HK3.out] at hown2
  obtain ⟨g2, cap2, rfl, hg2⟩ := own_some hown2
  have HDL := Lib.hid (deletePc_any w1.heap.size g2 l.ps.length k cap2 i l.ps w2 (by omega) (by omega) hk1 hk2 rfl (by rw [HK3.out]; exact hown2))
  have hl2 := hown2.lt g2 rfl
  rw [← HK3.out]
  have HB2 := Lib.hid (bl_trans HB1.out hb2)
  have HX2 : Hid (BF3 w2 g (.int .i8 0) (.int .i8 0) (.slice none 0 0)) := Lib.hid (by
    obtain ⟨y, x0, x1, x2, f0, f1, f2⟩ := HX.out
    obtain ⟨hc, hf⟩ := bcell hb2
    exact ⟨Nat.lt_of_lt_of_le y hb2.size, by rw [hc _ _ y]; exact x0, by rw [hc _ _ y]; exact x1, by rw [hc _ _ y]; exact x2, by rw [hf _ _ y]; exact f0, by rw [hf _ _ y]; exact f1, by rw [hf _ _ y]; exact f2⟩)
  have hz2 := hb2.size
  clear hown2 hb2 e2
  go_wp2_with fail
  refine HDL.out.mono ?_
  rintro e w3 ⟨rfl, hown3, hgr3⟩
  have hgl := HX2.out.1
  have hgg : g ≠ g2 := by have := HX.out.1; omega
  have HX3 : Hid (BF3 w3 g (.int .i8 0) (.int .i8 0) (.slice none 0 0)) := Lib.hid (by
    obtain ⟨y, x0, x1, x2, f0, f1, f2⟩ := HX2.out
    have q := hgr3.block g y (by intro e; cases e; exact hgg rfl)
    exact ⟨Nat.lt_of_lt_of_le y hgr3.size, by rw [World.cell?_of_block q]; exact x0, by rw [World.cell?_of_block q]; exact x1, by rw [World.cell?_of_block q]; exact x2, by rw [World.frozen?_of_block q]; exact f0, by rw [World.frozen?_of_block q]; exact f1, by rw [World.frozen?_of_block q]; exact f2⟩)
  have hgw : w.heap.size ≤ g := by rw [HG.out]; exact Nat.le_refl _
  have HB3 := Lib.hid (bl_grown HB2.out hgr3 (fun q hq => by cases hq; omega))
  have HO3 := Lib.hid hown3
  have HWC := Lib.hid (with_any b0 l (some ⟨g2, 0, none⟩) k cap2 w3 (HB.out w3 HB3.out))
  clear hown3 hgr3
  go_wp2_with fail
  refine HWC.out.mono ?_
  rintro e w4 ⟨rfl, hb4⟩
  have HX4 : Hid (BF3 w4 g (.int .i8 0) (.int .i8 0) (.slice none 0 0)) := Lib.hid (by
    obtain ⟨y, x0, x1, x2, f0, f1, f2⟩ := HX3.out
    obtain ⟨hc, hf⟩ := bcell hb4
    exact ⟨Nat.lt_of_lt_of_le y hb4.size, by rw [hc _ _ y]; exact x0, by rw [hc _ _ y]; exact x1, by rw [hc _ _ y]; exact x2, by rw [hf _ _ y]; exact f0, by rw [hf _ _ y]; exact f1, by rw [hf _ _ y]; exact f2⟩)
  obtain ⟨hg4, x0, x1, x2, f0, f1, f2⟩ := HX4.out
  have HB4 := Lib.hid (bl_trans HB3.out hb4)
  have HO4 := Lib.hid (own_below HO3.out hb4 (Nat.le_refl _))
  clear hb4
  go_wp2
  refine bodyPost_ret (v := bdv l.wd l.hg (.slice (some ⟨g2, 0, none⟩) k cap2)) (by simp [results, Tryz.results85, go_sem, x0, x1, x2]) rfl ⟨_, rfl, ?_, bl_set (bl_set (bl_set HB4.out hgw _) hgw _) hgw _⟩
  rw [HLE.out]
  have hgl1 := HX.out.1
  refine own_mono (base' := w1.heap.size) ?_ (by omega)
  repeat (with_reducible refine ownsRow_setCell_below ?_ (by first | (simp; done) | (simp; omega)) _)
  exact HO4.out
end Go.Proofs.YtmeefmoblkiebaaGreat
/- Contracts: whether a part is useless (the program). -/
namespace Go.Proofs.YtmeefmoblkiebaaGreat
open Go.RowKit
set_option linter.unusedVariables false
set_option linter.unusedSimpArgs false
set_option maxHeartbeats 400000
set_option maxRecDepth 100000
theorem eg_ul1 (args : Array Value) (w : World) : (callFunc 136 args).run Tryz.prog w = .ok (.enter 136 args) w := by kernel_rfl
theorem useless1_any (p : Po) (c : Ce) (b7 : Nat) (w : World) (hp : p.ok) (hc : c.ok) (h7 : b7 < w.heap.size) (c0 : w.cell? ⟨b7, 0, none⟩ = some (.int .i8 c.x)) (c1 : w.cell? ⟨b7, 1, none⟩ = some (.int .i8 c.y)) :
    Calls Tryz.prog 136 #[p.val, .pointer (some ⟨b7, 0, none⟩)] w fun e w' => e = .returned (.bool (decide ((⟨p.x, p.y⟩ : Ce) = c))) ∧ Below w.heap.size w w' := by
  have e0 : (w.alloc (.cells #[.int .i8 p.x, .int .i8 p.y, .int .i8 p.s] 127)).cell? ⟨b7, 0, none⟩ = some (.int .i8 c.x) := by rw [cell_alloc _ _ _ _ h7]; exact c0
  have e1 : (w.alloc (.cells #[.int .i8 p.x, .int .i8 p.y, .int .i8 p.s] 127)).cell? ⟨b7, 1, none⟩ = some (.int .i8 c.y) := by rw [cell_alloc _ _ _ _ h7]; exact c1
  have he : ∀ w, (binOp .eql 47 (.agg #[.int .i8 p.x, .int .i8 p.y]) (.agg #[.int .i8 c.x, .int .i8 c.y])).run Tryz.prog w = .ok (.bool (decide ((⟨p.x, p.y⟩ : Ce) = c))) w := run_eql_ce p.x p.y c.x c.y
  go_enter Tryz.func136, Tryz.ntmps136
  go_wp2
  go_ret
  exact ⟨rfl, (by repeat (first | with_reducible exact Below.refl _ _ | with_reducible assumption | with_reducible apply bl_drewN | with_reducible apply bl_drew | with_reducible apply bl_alloc | (with_reducible refine bl_set ?_ (by first | (simp; done) | (simp; omega)) _) | with_reducible refine bl_trans ?_ (by with_reducible assumption)))⟩
theorem mp_of {w : World} {g : Nat} {m : Mc} {s si so : Value} (hg : g < w.heap.size) (c0 : w.cell? ⟨g, 0, none⟩ = some (.int .i8 m.bd.wd)) (c1 : w.cell? ⟨g, 1, none⟩ = some (.int .i8 m.bd.hg)) (c2 : w.cell? ⟨g, 2, none⟩ = some s) (c3 : w.cell? ⟨g, 3, none⟩ = some si) (c4 : w.cell? ⟨g, 4, none⟩ = some so) (h1 : PV w s m.bd.ps) (h2 : RV Po.cells w si m.ins) (h3 : RV Ce.cells w so m.outs) : MP w g m :=
  ⟨hg, s, si, so, ⟨⟨c0, c1, c2⟩, c3, c4⟩, h1, h2, h3⟩
theorem pv_own {w : World} {base : Nat} {v : Value} {ps : List Pc} (h : w.ownsRow base 49 5 v ps.length (flat Pc.cells ps)) : PV w v ps := by
  obtain ⟨a, cap, rfl, h1, -, -⟩ := own_at h
  exact ⟨a, cap, rfl, h1⟩
theorem map_cast_inj : ∀ (l l' : List Nat), l.map (fun (n : Nat) => (n : Int)) = l'.map (fun (n : Nat) => (n : Int)) → l = l'
  | [], [], _ => rfl
  | [], _ :: _, h => by simp at h
  | _ :: _, [], h => by simp at h
  | x :: xs, y :: ys, h => by
    simp only [List.map_cons, List.cons.injEq] at h
    obtain ⟨h1, h2⟩ := h
    rw [map_cast_inj xs ys h2, show x = y by omega]
set_option maxHeartbeats 1600000 in
theorem useless_any (b0 : Nat) (m : Mc) (i : Nat) (a : Option Addr) (cap : Nat) (tabs : List Nat) (w : World) (h : MP w b0 m) (hv : vMc m = true) (hok : m.ok) (hi : i < m.bd.ps.length) (hs : SlAt w.heap.size w a (flat U64_cells (tabs.map (fun (n : Nat) => (n : Int))))) (htl : tabs.length ≤ 10000000) :
    Calls Tryz.prog 84 #[.pointer (some ⟨b0, 0, none⟩), .int .i64 i, .slice a tabs.length cap] w fun e w' => e = .returned (.bool (ulP m tabs i)) ∧ Below w.heap.size w w' := by
  obtain ⟨hvb, h60, hi1, hi6, ho1, ho8, -⟩ := vMc_parts m hv
  have HM := Lib.hid h
  have HUL : Hid (ulP m tabs i = ((!portAt m m.bd.ps[i].at_) && decide (mTabI (woMc m i) = tabs.map (fun (n : Nat) => (n : Int))))) := Lib.hid (by
    unfold ulP
    rw [vMc_wo m i hv hi]
    congr 1
    rw [Bool.eq_iff_iff, decide_eq_true_eq, decide_eq_true_eq]
    unfold mTabI
    constructor
    · intro e; rw [e]
    · intro e; exact map_cast_inj _ _ e)
  have HVW : Hid (portAt m m.bd.ps[i].at_ = false → vMc (woMc m i) = true) := Lib.hid (fun e => by rw [vMc_wo m i hv hi, e]; rfl)
  have HOKW := Lib.hid (woMc_ok m i hok)
  have HPOK : Hid m.bd.ps[i].ok := Lib.hid (hok.1.2.2 i hi)
  have HLS := Lib.hid (fun w1 (hb : Below w.heap.size w w1) => less_any b0 m.bd i w1 (HM.out.step hb).bp hi (by omega))
  obtain ⟨hbl, s, si, so, ⟨⟨c0, c1, c2⟩, c3, c4⟩, ⟨pa, pcap, rfl, hps⟩, ⟨ia, icap, rfl, hins⟩, ⟨oa, ocap, rfl, houts⟩⟩ := h
  obtain ⟨b, off, rfl, hbp, hat⟩ := pcs_get hps hi
  unfold PcAt at hat
  obtain ⟨p0, p1, -⟩ := hat
  obtain ⟨C, hC⟩ : ∃ C, C = m.bd.ps[i].at_ := ⟨_, rfl⟩
  have hCx : m.bd.ps[i].x = C.x := by rw [hC]; rfl
  have hCy : m.bd.ps[i].y = C.y := by rw [hC]; rfl
  have HCO : Hid C.ok := Lib.hid (by rw [hC]; exact HPOK.out.1)
  rw [hCx] at p0
  rw [hCy] at p1
  rw [← hC] at HUL HVW
  have hiI : (i : Int) < m.bd.ps.length := by omega
  have hb7 : Below w.heap.size w (w.alloc (.cells #[.int .i8 C.x, .int .i8 C.y] 47)) := bl_alloc (Below.refl _ _)
  have hz7 : (w.alloc (.cells #[.int .i8 C.x, .int .i8 C.y] 47)).heap.size = w.heap.size + 1 := by simp
  have k0 : (w.alloc (.cells #[.int .i8 C.x, .int .i8 C.y] 47)).cell? ⟨w.heap.size, 0, none⟩ = some (.int .i8 C.x) := by simp [go_sem]
  have k1 : (w.alloc (.cells #[.int .i8 C.x, .int .i8 C.y] 47)).cell? ⟨w.heap.size, 1, none⟩ = some (.int .i8 C.y) := by simp [go_sem]
  have H7 := Lib.hid (And.intro hb7 (And.intro hz7 (And.intro k0 k1)))
  obtain ⟨res, hres⟩ : ∃ res, res = ulP m tabs i := ⟨_, rfl⟩
  rw [← hres]
  rw [← hres] at HUL
  clear hC hCx hCy hres hb7 hz7 k0 k1
  have HC3 := Lib.hid (And.intro c3 c4)
  go_enter Tryz.func84, Tryz.ntmps84
  go_upto_region 2 with fail
  obtain ⟨w1, hw1⟩ : ∃ w1, w1 = w.alloc (.cells #[.int .i8 C.x, .int .i8 C.y] 47) := ⟨_, rfl⟩
  rw [← hw1] at H7 ⊢
  obtain ⟨g7, hg7⟩ : ∃ g7, g7 = w.heap.size := ⟨_, rfl⟩
  have hgl : w.heap.size ≤ g7 := by omega
  obtain ⟨hb1, hz1, k0, k1⟩ := H7.out
  rw [← hg7] at k0 k1 ⊢
  have hg1 : g7 < w1.heap.size := by omega
  have d3 : w1.cell? ⟨b0, 3, none⟩ = some (.slice ia m.ins.length icap) := by rw [hb1.cell (p := ⟨b0, 3, none⟩) hbl]; exact c3
  have d4 : w1.cell? ⟨b0, 4, none⟩ = some (.slice oa m.outs.length ocap) := by rw [hb1.cell (p := ⟨b0, 4, none⟩) hbl]; exact c4
  have hb01 : b0 < w1.heap.size := Nat.lt_of_lt_of_le hbl hb1.size
  have HCT := Lib.hid (fun w2 (hb : Below w1.heap.size w1 w2) => containsCe_any (B := w.heap.size) oa ocap m.outs C w2 (houts.below (bl_trans hb1 hb) (Nat.le_refl _)) (bl_trans hb1 hb).size (by omega))
  have HCF := Lib.hid (fun w2 (hb : Below w1.heap.size w1 w2) => containsFuncPo_any (B := w.heap.size) 136 #[.pointer (some ⟨g7, 0, none⟩)] ia icap m.ins w2 (hins.below (bl_trans hb1 hb) (Nat.le_refl _)) hok.2.1 (bl_trans hb1 hb).size (by omega) eg_ul1 (fun p => decide ((⟨p.x, p.y⟩ : Ce) = C)) (fun p w3 hp hb3 => useless1_any p C g7 w3 hp HCO.out (by have := hb.size; have := hb3.size; omega) (by rw [hb3.cell (p := ⟨g7, 0, none⟩) (show g7 < w2.heap.size by have := hb.size; omega), hb.cell (p := ⟨g7, 0, none⟩) hg1]; exact k0) (by rw [hb3.cell (p := ⟨g7, 1, none⟩) (show g7 < w2.heap.size by have := hb.size; omega), hb.cell (p := ⟨g7, 1, none⟩) hg1]; exact k1)))
  have HB1 := Lib.hid hb1
  have HPA : Hid (portAt m C = (decide (C ∈ m.outs) || m.ins.any (fun p => decide ((⟨p.x, p.y⟩ : Ce) = C)))) := Lib.hid rfl
  obtain ⟨A1, hA1⟩ : ∃ A1, A1 = decide (C ∈ m.outs) := ⟨_, rfl⟩
  rw [← hA1] at HCT HPA
  obtain ⟨A2, hA2⟩ : ∃ A2, A2 = m.ins.any (fun p => decide ((⟨p.x, p.y⟩ : Ce) = C)) := ⟨_, rfl⟩
  rw [← hA2] at HCF HPA
  clear hw1 hz1 hg7 hA1 hA2 hb1 p0 p1
  cases A1 with
  | true =>
    have HF : Hid (res = false) := Lib.hid (by rw [HUL.out, HPA.out]; rfl)
    have b20 : Below w1.heap.size w1 w1.drew := bl_drew (Below.refl _ _)
    refine wp_region_T 0 14 (fun w' => w'.cell? ⟨b0, 4, none⟩ = some (.slice oa m.outs.length ocap) ∧ w'.cell? ⟨g7, 0, none⟩ = some (.int .i8 C.x) ∧ w'.cell? ⟨g7, 1, none⟩ = some (.int .i8 C.y)) (by kernel_rfl) ⟨d4, k0, k1⟩ (fun hHeld => ?_)
    have HCC := Lib.hid (HCT.out _ b20)
    have hzY : w1.heap.size ≤ w1.drew.heap.size := b20.size
    obtain ⟨Y0, hY0⟩ : ∃ Y, Y = w1.drew := ⟨_, rfl⟩
    rw [← hY0] at b20 HCC hzY hHeld ⊢
    clear hY0
    (refine' wpAnyT_take 12 0 (oi := ?oi1) (v := ?v1) ?hi1 (by kernel_rfl) (by kernel_rfl) (by kernel_rfl) (by kernel_rfl) (by kernel_rfl) (by kernel_rfl) ?hQ1 ?hy1 (by assumption) ?rest1; (case hi1 => simp only [List.getElem?_toArray, List.getElem?_cons_zero, List.getElem?_cons_succ]; rfl); (case hQ1 => exact fun _ _ _ h => h); (case hy1 => refine Or.inl ⟨by rfl, ?_⟩; intro wz hSw; (try dsimp only at hSw); go_simp; try with_reducible rfl); try simp only [Act.put, List.setIfInBounds_toArray, List.set_cons_zero, List.set_cons_succ])
    (refine' wpAnyT_take 12 1 (oi := ?oi2) (v := ?v2) ?hi2 (by kernel_rfl) (by kernel_rfl) (by kernel_rfl) (by kernel_rfl) (by kernel_rfl) (by kernel_rfl) ?hQ2 ?hy2 (by assumption) ?rest2; (case hi2 => simp only [List.getElem?_toArray, List.getElem?_cons_zero, List.getElem?_cons_succ]; rfl); (case hQ2 => exact fun _ _ _ h => h); (case hy2 => refine Or.inl ⟨by rfl, ?_⟩; intro wz hSw; (try dsimp only at hSw); go_simp; try with_reducible rfl); try simp only [Act.put, List.setIfInBounds_toArray, List.set_cons_zero, List.set_cons_succ])
    (refine' wpAnyT_take 12 2 (oi := ?oi3) (v := ?v3) ?hi3 (by kernel_rfl) (by kernel_rfl) (by kernel_rfl) (by kernel_rfl) (by kernel_rfl) (by kernel_rfl) ?hQ3 ?hy3 (by assumption) ?rest3; (case hi3 => simp only [List.getElem?_toArray, List.getElem?_cons_zero, List.getElem?_cons_succ]; rfl); (case hQ3 => exact fun _ _ _ h => h); (case hy3 => refine Or.inl ⟨by rfl, ?_⟩; intro wz hSw; (try dsimp only at hSw); go_simp; try with_reducible rfl); try simp only [Act.put, List.setIfInBounds_toArray, List.set_cons_zero, List.set_cons_succ])
    (refine' wpAnyT_take 12 3 (oi := ?oi4) (v := ?v4) ?hi4 (by kernel_rfl) (by kernel_rfl) (by kernel_rfl) (by kernel_rfl) (by kernel_rfl) (by kernel_rfl) ?hQ4 ?hy4 (by assumption) ?rest4; (case hi4 => simp only [List.getElem?_toArray, List.getElem?_cons_zero, List.getElem?_cons_succ]; rfl); (case hQ4 => exact fun _ _ _ h => h); (case hy4 => refine Or.inl ⟨by rfl, ?_⟩; intro wz hSw; (try dsimp only at hSw); go_simp; try with_reducible rfl); try simp only [Act.put, List.setIfInBounds_toArray, List.set_cons_zero, List.set_cons_succ])
    (refine' wpAnyT_take 12 4 (oi := ?oi5) (v := ?v5) ?hi5 (by kernel_rfl) (by kernel_rfl) (by kernel_rfl) (by kernel_rfl) (by kernel_rfl) (by kernel_rfl) ?hQ5 ?hy5 (by assumption) ?rest5; (case hi5 => simp only [List.getElem?_toArray, List.getElem?_cons_zero, List.getElem?_cons_succ]; rfl); (case hQ5 => exact fun _ _ _ h => h); (case hy5 => refine Or.inl ⟨by rfl, ?_⟩; intro wz hSw; (try dsimp only at hSw); go_simp; try with_reducible rfl); try simp only [Act.put, List.setIfInBounds_toArray, List.set_cons_zero, List.set_cons_succ])
    refine wpAnyT_ready (rs := [5]) (by kernel_rfl) (by simp) ?_
    (refine' AllReadyT.cons (o := ?o14) ?ho14 (fun K hK => ?step14) AllReadyT.nil; (case ho14 => simp only [List.getElem?_toArray, List.getElem?_cons_zero, List.getElem?_cons_succ]; rfl))
    go_simp
    refine HCC.out.mono ?_
    rintro e Y1 ⟨rfl, ba⟩
    have S1 : Y1.cell? ⟨b0, 4, none⟩ = some (.slice oa m.outs.length ocap) ∧ Y1.cell? ⟨g7, 0, none⟩ = some (.int .i8 C.x) ∧ Y1.cell? ⟨g7, 1, none⟩ = some (.int .i8 C.y) := by
      obtain ⟨f1, f2, f3⟩ := hHeld
      exact ⟨by rw [ba.cell (p := ⟨b0, 4, none⟩) (Nat.lt_of_lt_of_le hb01 hzY)]; exact f1, by rw [ba.cell (p := ⟨g7, 0, none⟩) (Nat.lt_of_lt_of_le hg1 hzY)]; exact f2, by rw [ba.cell (p := ⟨g7, 1, none⟩) (Nat.lt_of_lt_of_le hg1 hzY)]; exact f3⟩
    refine hK.out _ _ (fun _ _ => S1) (fun hHd => ?_)
    have hHeld := hHd (by decide) (by decide)
    have B2 := Lib.hid (bl_trans HB1.out (bl_trans b20 ba))
    clear hK K hHd S1 HCC ba b20 hzY
    try simp only [Act.put, List.setIfInBounds_toArray, List.set_cons_zero, List.set_cons_succ]
    (refine' wpAnyT_take 12 6 (oi := ?oi6) (v := ?v6) ?hi6 (by kernel_rfl) (by kernel_rfl) (by kernel_rfl) (by kernel_rfl) (by kernel_rfl) (by kernel_rfl) ?hQ6 ?hy6 (by assumption) ?rest6; (case hi6 => simp only [List.getElem?_toArray, List.getElem?_cons_zero, List.getElem?_cons_succ]; rfl); (case hQ6 => exact fun _ _ _ h => h); (case hy6 => refine Or.inl ⟨by rfl, ?_⟩; intro wz hSw; (try dsimp only at hSw); go_simp; try with_reducible rfl); try simp only [Act.put, List.setIfInBounds_toArray, List.set_cons_zero, List.set_cons_succ])
    (refine' wpAnyT_take 12 7 (oi := ?oi8) (v := ?v8) ?hi8 (by kernel_rfl) (by kernel_rfl) (by kernel_rfl) (by kernel_rfl) (by kernel_rfl) (by kernel_rfl) ?hQ8 ?hy8 (by assumption) ?rest8; (case hi8 => simp only [List.getElem?_toArray, List.getElem?_cons_zero, List.getElem?_cons_succ]; rfl); (case hQ8 => exact fun _ _ _ h => h); (case hy8 => refine Or.inr ⟨by rfl, ?_⟩; with_reducible rfl); try simp only [Act.put, List.setIfInBounds_toArray, List.set_cons_zero, List.set_cons_succ])
    (refine' wpAnyT_take 12 8 (oi := ?oi9) (v := ?v9) ?hi9 (by kernel_rfl) (by kernel_rfl) (by kernel_rfl) (by kernel_rfl) (by kernel_rfl) (by kernel_rfl) ?hQ9 ?hy9 (by assumption) ?rest9; (case hi9 => simp only [List.getElem?_toArray, List.getElem?_cons_zero, List.getElem?_cons_succ]; rfl); (case hQ9 => exact fun _ _ _ h => h); (case hy9 => refine Or.inr ⟨by rfl, ?_⟩; with_reducible rfl); try simp only [Act.put, List.setIfInBounds_toArray, List.set_cons_zero, List.set_cons_succ])
    (refine' wpAnyT_take 12 9 (oi := ?oi10) (v := ?v10) ?hi10 (by kernel_rfl) (by kernel_rfl) (by kernel_rfl) (by kernel_rfl) (by kernel_rfl) (by kernel_rfl) ?hQ10 ?hy10 (by assumption) ?rest10; (case hi10 => simp only [List.getElem?_toArray, List.getElem?_cons_zero, List.getElem?_cons_succ]; rfl); (case hQ10 => exact fun _ _ _ h => h); (case hy10 => refine Or.inr ⟨by rfl, ?_⟩; with_reducible rfl); try simp only [Act.put, List.setIfInBounds_toArray, List.set_cons_zero, List.set_cons_succ])
    (refine' wpAnyT_take 12 10 (oi := ?oi11) (v := ?v11) ?hi11 (by kernel_rfl) (by kernel_rfl) (by kernel_rfl) (by kernel_rfl) (by kernel_rfl) (by kernel_rfl) ?hQ11 ?hy11 (by assumption) ?rest11; (case hi11 => simp only [List.getElem?_toArray, List.getElem?_cons_zero, List.getElem?_cons_succ]; rfl); (case hQ11 => exact fun _ _ _ h => h); (case hy11 => refine Or.inr ⟨by rfl, ?_⟩; with_reducible rfl); try simp only [Act.put, List.setIfInBounds_toArray, List.set_cons_zero, List.set_cons_succ])
    (refine' wpAnyT_take 12 11 (oi := ?oi12) (v := ?v12) ?hi12 (by kernel_rfl) (by kernel_rfl) (by kernel_rfl) (by kernel_rfl) (by kernel_rfl) (by kernel_rfl) ?hQ12 ?hy12 (by assumption) ?rest12; (case hi12 => simp only [List.getElem?_toArray, List.getElem?_cons_zero, List.getElem?_cons_succ]; rfl); (case hQ12 => exact fun _ _ _ h => h); (case hy12 => refine Or.inr ⟨by rfl, ?_⟩; with_reducible rfl); try simp only [Act.put, List.setIfInBounds_toArray, List.set_cons_zero, List.set_cons_succ])
    (refine' wpAnyT_take 12 12 (oi := ?oi13) (v := ?v13) ?hi13 (by kernel_rfl) (by kernel_rfl) (by kernel_rfl) (by kernel_rfl) (by kernel_rfl) (by kernel_rfl) ?hQ13 ?hy13 (by assumption) ?rest13; (case hi13 => simp only [List.getElem?_toArray, List.getElem?_cons_zero, List.getElem?_cons_succ]; rfl); (case hQ13 => exact fun _ _ _ h => h); (case hy13 => refine Or.inr ⟨by rfl, ?_⟩; with_reducible rfl); try simp only [Act.put, List.setIfInBounds_toArray, List.set_cons_zero, List.set_cons_succ])
    (refine' wpAnyT_take 12 13 (oi := ?oi7) (v := ?v7) ?hi7 (by kernel_rfl) (by kernel_rfl) (by kernel_rfl) (by kernel_rfl) (by kernel_rfl) (by kernel_rfl) ?hQ7 ?hy7 (by assumption) ?rest7; (case hi7 => simp only [List.getElem?_toArray, List.getElem?_cons_zero, List.getElem?_cons_succ]; rfl); (case hQ7 => exact fun _ _ _ h => h); (case hy7 => refine Or.inl ⟨by rfl, ?_⟩; intro wz hSw; (try dsimp only at hSw); go_simp; try with_reducible rfl); try simp only [Act.put, List.setIfInBounds_toArray, List.set_cons_zero, List.set_cons_succ])
    refine wpAnyT_done (by kernel_rfl) ?_ _
    go_wp2
    go_ret
    exact ⟨by rw [HF.out]; rfl, B2.out⟩
  | false =>
    go_region_held3 (fun w' => Below w1.heap.size w1 w' ∧ ∀ b o, b < w1.heap.size → w'.cell? ⟨b, o, none⟩ = w1.cell? ⟨b, o, none⟩) ((refine ext_s ?_; exact (by repeat (first | with_reducible exact Below.refl _ _ | with_reducible assumption | with_reducible apply bl_drewN | with_reducible apply bl_drew | with_reducible apply bl_alloc | (with_reducible refine bl_set ?_ (by first | (simp; done) | (simp; omega)) _) | with_reducible refine bl_trans ?_ (by with_reducible assumption))))) (first | (go_at_call 134; refine (HCT.out _ ?_).mono ?_; (exact (by repeat (first | with_reducible exact Below.refl _ _ | with_reducible assumption | with_reducible apply bl_drewN | with_reducible apply bl_drew | with_reducible apply bl_alloc | (with_reducible refine bl_set ?_ (by first | (simp; done) | (simp; omega)) _) | with_reducible refine bl_trans ?_ (by with_reducible assumption)))); rintro e wa ⟨rfl, ba⟩; have bA : Below w1.heap.size w1 wa := (by repeat (first | with_reducible exact Below.refl _ _ | with_reducible assumption | with_reducible apply bl_drewN | with_reducible apply bl_drew | with_reducible apply bl_alloc | (with_reducible refine bl_set ?_ (by first | (simp; done) | (simp; omega)) _) | with_reducible refine bl_trans ?_ (by with_reducible assumption))); obtain ⟨hca, hfa⟩ := bcell bA) | (go_at_call 135; refine (HCF.out _ ?_).mono ?_; (exact (by repeat (first | with_reducible exact Below.refl _ _ | with_reducible assumption | with_reducible apply bl_drewN | with_reducible apply bl_drew | with_reducible apply bl_alloc | (with_reducible refine bl_set ?_ (by first | (simp; done) | (simp; omega)) _) | with_reducible refine bl_trans ?_ (by with_reducible assumption)))); rintro e wb ⟨rfl, bb⟩; have bB : Below w1.heap.size w1 wb := (by repeat (first | with_reducible exact Below.refl _ _ | with_reducible assumption | with_reducible apply bl_drewN | with_reducible apply bl_drew | with_reducible apply bl_alloc | (with_reducible refine bl_set ?_ (by first | (simp; done) | (simp; omega)) _) | with_reducible refine bl_trans ?_ (by with_reducible assumption))); obtain ⟨hcb, hfb⟩ := bcell bB))
    have bw2 : Below w1.heap.size w1 wb := (by repeat (first | with_reducible exact Below.refl _ _ | with_reducible assumption | with_reducible apply bl_drewN | with_reducible apply bl_drew | with_reducible apply bl_alloc | (with_reducible refine bl_set ?_ (by first | (simp; done) | (simp; omega)) _) | with_reducible refine bl_trans ?_ (by with_reducible assumption)))
    cases A2 with
    | true =>
      have HF : Hid (res = false) := Lib.hid (by rw [HUL.out, HPA.out]; rfl)
      go_wp2
      go_ret
      exact ⟨by rw [HF.out]; rfl, bl_trans HB1.out bw2⟩
    | false =>
      have hpf : portAt m C = false := by rw [HPA.out]; rfl
      have hvw := HVW.out hpf
      have HF : Hid (res = decide (mTabI (woMc m i) = tabs.map (fun (n : Nat) => (n : Int)))) := Lib.hid (by rw [HUL.out, hpf]; rfl)
      have B2 := Lib.hid (bl_trans HB1.out bw2)
      have f3 : wb.cell? ⟨b0, 3, none⟩ = some (.slice ia m.ins.length icap) := by rw [bw2.cell (p := ⟨b0, 3, none⟩) hb01]; exact d3
      have f4 : wb.cell? ⟨b0, 4, none⟩ = some (.slice oa m.outs.length ocap) := by rw [bw2.cell (p := ⟨b0, 4, none⟩) hb01]; exact d4
      have hb0b : b0 < wb.heap.size := Nat.lt_of_lt_of_le hbl B2.out.size
      have HWK := Lib.hid (fun g w3 (hm : MP w3 g (woMc m i)) => worksOf_any g (woMc m i) w3 hm hvw HOKW.out)
      have HTB := Lib.hid (fun g g2 w3 (hw : WkAt w3 g2 g (woMc m i)) => wtables_any g2 g (woMc m i) w3 hw hvw HOKW.out)
      have HEQ := Lib.hid (fun w3 (hb : Below w.heap.size w w3) a' cap' xs (hx : SlAt w3.heap.size w3 a' (flat U64_cells xs)) (hl : xs.length ≤ 10000000) => equalU64_any (B := w3.heap.size) a' a cap' cap xs (tabs.map (fun (n : Nat) => (n : Int))) w3 hx ((hs.below hb (Nat.le_refl _)).mono hb.size) (Nat.le_refl _) hl (by rw [List.length_map]; exact htl))
      clear HCT HCF hpf hvw k0 k1 hca hfa hcb hfb
      go_upto_region 4 with fail
      have B2x := B2.out
      go_cut [8] from 32 to 45 (fun s8 wx => ∃ g : Nat, s8 = .pointer (some ⟨g, 0, none⟩) ∧ MP wx g (woMc m i) ∧ Below w.heap.size w wx)
      case first =>
        go_region_held3 (fun w' => Below wb.heap.size wb w' ∧ ∀ b o, b < wb.heap.size → w'.cell? ⟨b, o, none⟩ = wb.cell? ⟨b, o, none⟩) ((refine ext_s ?_; exact (by repeat (first | with_reducible exact Below.refl _ _ | with_reducible assumption | with_reducible apply bl_drewN | with_reducible apply bl_drew | with_reducible apply bl_alloc | (with_reducible refine bl_set ?_ (by first | (simp; done) | (simp; omega)) _) | with_reducible refine bl_trans ?_ (by with_reducible assumption))))) ((go_at_call 85; refine (HLS.out _ ?_).mono ?_; (exact bl_trans B2.out (by repeat (first | with_reducible exact Below.refl _ _ | with_reducible assumption | with_reducible apply bl_drewN | with_reducible apply bl_drew | with_reducible apply bl_alloc | (with_reducible refine bl_set ?_ (by first | (simp; done) | (simp; omega)) _) | with_reducible refine bl_trans ?_ (by with_reducible assumption)))); rintro e w3 ⟨v3, rfl, hown3, hb3⟩; obtain ⟨a3, cap3, hv3, hsl3, -⟩ := own_at hown3; subst hv3; have bw3 : Below wb.heap.size wb w3 := (by repeat (first | with_reducible exact Below.refl _ _ | with_reducible assumption | with_reducible apply bl_drewN | with_reducible apply bl_drew | with_reducible apply bl_alloc | (with_reducible refine bl_set ?_ (by first | (simp; done) | (simp; omega)) _) | with_reducible refine bl_trans ?_ (by with_reducible assumption))); obtain ⟨hc3, hf3⟩ := bcell hb3; have hz3 := hb3.size; simp at hz3))
        all_goals
          go_wp2_with fail
          go_meet
        · refine ⟨w3.heap.size, rfl, ?_, bl_trans B2x (by repeat (first | with_reducible exact Below.refl _ _ | with_reducible assumption | with_reducible apply bl_drewN | with_reducible apply bl_drew | with_reducible apply bl_alloc | (with_reducible refine bl_set ?_ (by first | (simp; done) | (simp; omega)) _) | with_reducible refine bl_trans ?_ (by with_reducible assumption)))⟩
          have hIA : RV Po.cells w3 (.slice ia m.ins.length icap) m.ins := RV.step ⟨ia, icap, rfl, hins⟩ (bl_trans B2x bw3)
          have hOA : RV Ce.cells w3 (.slice oa m.outs.length ocap) m.outs := RV.step ⟨oa, ocap, rfl, houts⟩ (bl_trans B2x bw3)
          exact MP.new (m := woMc m i) (pv_own hown3) hIA hOA _
        · have hwg : w.heap.size ≤ wb.heap.size := B2x.size
          have hBf : Below w.heap.size w (((((w3.setCell ⟨wb.heap.size, 0, none⟩ (.int .i8 m.bd.wd)).setCell ⟨wb.heap.size, 1, none⟩ (.int .i8 m.bd.hg)).setCell ⟨wb.heap.size, 2, none⟩ (.slice a3 (m.bd.ps.eraseIdx i).length cap3)).setCell ⟨wb.heap.size, 3, none⟩ (.slice ia m.ins.length icap)).setCell ⟨wb.heap.size, 4, none⟩ (.slice oa m.outs.length ocap)) := bl_set (bl_set (bl_set (bl_set (bl_set (bl_trans B2x bw3) hwg _) hwg _) hwg _) hwg _) hwg _
          have x0 : w3.cell? ⟨wb.heap.size, 0, none⟩ = some (.int .i8 0) := by rw [hc3 _ _ (by simp)]; simp [go_sem]
          have x1 : w3.cell? ⟨wb.heap.size, 1, none⟩ = some (.int .i8 0) := by rw [hc3 _ _ (by simp)]; simp [go_sem]
          have x2 : w3.cell? ⟨wb.heap.size, 2, none⟩ = some (.slice none 0 0) := by rw [hc3 _ _ (by simp)]; simp [go_sem]
          have x3 : w3.cell? ⟨wb.heap.size, 3, none⟩ = some (.slice none 0 0) := by rw [hc3 _ _ (by simp)]; simp [go_sem]
          have x4 : w3.cell? ⟨wb.heap.size, 4, none⟩ = some (.slice none 0 0) := by rw [hc3 _ _ (by simp)]; simp [go_sem]
          refine ⟨wb.heap.size, rfl, ?_, hBf⟩
          refine mp_of (m := woMc m i) (s := .slice a3 (m.bd.ps.eraseIdx i).length cap3) (si := .slice ia m.ins.length icap) (so := .slice oa m.outs.length ocap) (by simp; omega) (by simp [go_sem, x0, x1, x2, x3, x4]; rfl) (by simp [go_sem, x0, x1, x2, x3, x4]; rfl) (by simp [go_sem, x0, x1, x2, x3, x4]) (by simp [go_sem, x0, x1, x2, x3, x4]) (by simp [go_sem, x0, x1, x2, x3, x4]) ?_ (RV.step ⟨ia, icap, rfl, hins⟩ hBf) (RV.step ⟨oa, ocap, rfl, houts⟩ hBf)
          refine pv_own (base := (wb.heap.size + 1)) ?_
          have h9 : w3.ownsRow (wb.heap.size + 1) 49 5 (.slice a3 (m.bd.ps.eraseIdx i).length cap3) (m.bd.ps.eraseIdx i).length (flat Pc.cells (m.bd.ps.eraseIdx i)) := by simpa using hown3
          repeat (with_reducible refine ownsRow_setCell_below ?_ (by first | (simp; done) | (simp; omega)) _)
          exact h9
      case rest =>
        obtain ⟨g, rfl, hmp, hb⟩ := hcut
        have HWC := Lib.hid (HWK.out g wc hmp)
        have HBc := Lib.hid hb
        clear hmp hb d3 d4 f3 f4
        go_wp2_with fail
        refine HWC.out.mono ?_
        rintro e w5 ⟨g2, rfl, -, hwk, hb5⟩
        have HB5 := Lib.hid (bl_trans HBc.out hb5)
        have HTC := Lib.hid (HTB.out g g2 w5 hwk)
        clear hwk hb5 HWC
        go_wp2_with fail
        refine HTC.out.mono ?_
        rintro e w6 ⟨v6, rfl, hown6, hb6⟩
        obtain ⟨a6, cap6, rfl, hsl6, -⟩ := own_at hown6
        have hlx : (mTabI (woMc m i)).length = (woMc m i).outs.length := mTabI_len _
        have hlt : (tabs.map (fun (n : Nat) => (n : Int))).length = tabs.length := by rw [List.length_map]
        have HEC := Lib.hid (HEQ.out w6 (bl_trans HB5.out hb6) a6 cap6 (mTabI (woMc m i)) hsl6 (by rw [hlx]; show m.outs.length ≤ _; omega))
        rw [hlx, hlt] at HEC
        have HB6 := Lib.hid (bl_trans HB5.out hb6)
        clear hown6 hb6 hsl6 hlx hlt HTC HEQ
        go_wp2_with fail
        refine HEC.out.mono ?_
        rintro e w7 ⟨rfl, hb7⟩
        go_wp2
        go_ret
        exact ⟨by rw [HF.out]; rfl, bl_trans HB6.out hb7⟩
end Go.Proofs.YtmeefmoblkiebaaGreat
/- Contracts: UselessParts (the program). -/
namespace Go.Proofs.YtmeefmoblkiebaaGreat
open Go.RowKit
set_option linter.unusedVariables false
set_option linter.unusedSimpArgs false
set_option maxHeartbeats 400000
set_option maxRecDepth 100000
set_option maxHeartbeats 1600000 in
theorem uselessParts_any (m : Mc) (v : Value) (w : World) (h : MVc w v m) (hok : m.ok) (hn : m.bd.ps.length ≤ 10000000) (hn1 : m.ins.length ≤ 10000000) (hn2 : m.outs.length ≤ 10000000) :
    Calls Tryz.prog 35 #[v] w fun e w' => ∃ v, e = .returned (.tuple #[v, .int .i64 (mCode m)]) ∧ w'.ownsRow w.heap.size 2 1 v (ulList m).length (flat N64_cells (ulList m)) ∧ Below w.heap.size w w' := by
  have HMT := Lib.hid (fun w1 (hb : Below w.heap.size w w1) => machineTables_any m v w1 (h.step hb) hok hn hn1 hn2)
  obtain ⟨sa, scap, ia, icap, oa, ocap, rfl, hcap, hps, hins, houts⟩ := h
  have HM := Lib.hid (MP.new (m := m) (w := w) ⟨sa, scap, rfl, hps⟩ ⟨ia, icap, rfl, hins⟩ ⟨oa, ocap, rfl, houts⟩ 55)
  have HBA := Lib.hid (show Below w.heap.size w (w.alloc (.cells #[.int .i8 m.bd.wd, .int .i8 m.bd.hg, .slice sa m.bd.ps.length scap, .slice ia m.ins.length icap, .slice oa m.outs.length ocap] 55)) from bl_alloc (Below.refl _ _))
  have HXB := Lib.hid (BX5.new w (.int .i8 m.bd.wd) (.int .i8 m.bd.hg) (.slice sa m.bd.ps.length scap) (.slice ia m.ins.length icap) (.slice oa m.outs.length ocap) 55)
  rcases Bool.eq_false_or_eq_true (vMc m) with g1 | g1
  · obtain ⟨hvb, h60, hi1, hi6, ho1, ho8, -⟩ := vMc_parts m g1
    have HC : Hid (mCode m = 0) := Lib.hid (by unfold mCode; rw [if_pos g1])
    have HL : Hid (mtList m = mTabI m) := Lib.hid (by unfold mtList; rw [if_pos g1])
    have HUL : Hid (ulList m = hzTo (ulP m (mTabs m)) m.bd.ps.length) := Lib.hid (by unfold ulList; rw [if_pos g1])
    rw [HC.out, HUL.out]
    rw [HC.out, HL.out] at HMT
    have HTE : Hid (mTabI m = (mTabs m).map (fun (n : Nat) => (n : Int))) := Lib.hid rfl
    have HTL : Hid ((mTabI m).length = (mTabs m).length) := Lib.hid (by rw [HTE.out, List.length_map])
    rw [HTL.out, HTE.out] at HMT
    have HT8 : (mTabs m).length ≤ 8 := by rw [mTabs_len]; exact ho8
    have HUS := Lib.hid (fun w1 (hb : Below (w.alloc (.cells #[.int .i8 m.bd.wd, .int .i8 m.bd.hg, .slice sa m.bd.ps.length scap, .slice ia m.ins.length icap, .slice oa m.outs.length ocap] 55)).heap.size (w.alloc (.cells #[.int .i8 m.bd.wd, .int .i8 m.bd.hg, .slice sa m.bd.ps.length scap, .slice ia m.ins.length icap, .slice oa m.outs.length ocap] 55)) w1) i (hi : i < m.bd.ps.length) a cap (hs : SlAt w1.heap.size w1 a (flat U64_cells ((mTabs m).map (fun (n : Nat) => (n : Int))))) => useless_any w.heap.size m i a cap (mTabs m) w1 (HM.out.step hb) g1 hok hi hs (by omega))
    obtain ⟨tabs, htabs⟩ : ∃ tabs, tabs = mTabs m := ⟨_, rfl⟩
    rw [← htabs] at HMT HUS HT8 ⊢
    obtain ⟨p, hp⟩ : ∃ p, p = ulP m tabs := ⟨_, rfl⟩
    rw [← hp] at HUS ⊢
    have HLN := Lib.hid (hzTo_len p)
    clear g1 HC HL HUL htabs HTE HTL hp
    obtain ⟨i0, hi0, hiz0, hiz1, hiz2⟩ := info_parts Tryz.infoInt64
    go_enter Tryz.func35, Tryz.ntmps35
    go_wp2_with fail
    refine (HMT.out _ HBA.out).mono ?_
    rintro e w1 ⟨v1, rfl, hown1, hb1⟩
    obtain ⟨a1, cap1, rfl, hsl1, -, -⟩ := own_at hown1
    have HB1 := Lib.hid hb1
    have HS1 := Lib.hid hsl1
    obtain ⟨X0, -, -, x2, -, -⟩ := HXB.out.step hb1
    have hown0 := World.ownsRow_made (e := 2) (size := 1) w1 #[] 0 (Nat.le_refl _) (by simp [maxLen]) rfl
    have hb0 : Below w1.heap.size w1 (w1.alloc (.cells #[] 2)) := bl_alloc (Below.refl _ _)
    have HO0 := Lib.hid hown0
    have HBO := Lib.hid hb0
    clear hown1 hsl1 hb1 HMT hown0 hb0
    go_wp2
    go_loopw [6, 21] (fun v ix wr => ∃ i : Nat, i ≤ m.bd.ps.length ∧ ix = .int .i64 i ∧ wr.ownsRow w1.heap.size 2 1 v (hzTo p i).length (flat N64_cells (hzTo p i)) ∧ Below w1.heap.size w1 wr) (fun _ ix _ => m.bd.ps.length - (intOf ix).toNat)
    case atStart => exact ⟨0, by omega, rfl, HO0.out, HBO.out⟩
    case round =>
      obtain ⟨i, hi, rfl, hown, hb⟩ := hrel
      obtain ⟨av2, capv2, hve, -, -, -⟩ := own_at hown
      subst hve
      have HOWN := Lib.hid hown
      have hzb := hb.size
      have HBB := Lib.hid hb
      have HBW := Lib.hid (bl_trans HB1.out hb)
      have hle := HLN.out i
      obtain ⟨nn, hnn⟩ : ∃ nn, nn = (hzTo p i).length := ⟨_, rfl⟩
      rw [← hnn] at HOWN hle ⊢
      have HNN := Lib.hid hnn
      by_cases hlt : i < m.bd.ps.length
      · have hiI : (i : Int) < m.bd.ps.length := by omega
        have HUC := Lib.hid (HUS.out wr HBW.out i hlt a1 cap1 ((HS1.out.below hb (Nat.le_refl _)).mono hzb))
        clear hown hb hnn
        go_wp2_with fail
        refine HUC.out.mono ?_
        rintro e w7 ⟨rfl, hb7⟩
        have HBB7 := Lib.hid (bl_trans HBB.out hb7)
        have HO7 := Lib.hid (own_below HOWN.out hb7 (Nat.le_refl _))
        have hz7 := HBB7.out.size
        clear hb7 HUC
        rcases Bool.eq_false_or_eq_true (p i) with gp | gp
        · have HY : Hid (hzTo p (i + 1) = hzTo p i ++ [(i : Int)]) := Lib.hid (hzTo_yes p i gp)
          go_wp2_with (at_builtin; go_must (refine wpList_append_sl _ rfl _ _ 34 rfl w1.heap.size 2 i0 (.int .i64 0) 1 8 Tryz.underlying34 hi0 hiz0 hiz1 hiz2 rfl (by decide) _ _ _ rfl (own_below HO7.out (bl_alloc (Below.refl _ _)) (Nat.le_refl _)) (some ⟨w7.heap.size, 0, none⟩) 1 1 [.int .i64 (i : Int)] rfl (sl_newC w7 #[.int .i64 (i : Int)] 2 _ rfl) rfl (by intro u hu; rw [List.mem_singleton] at hu; subst hu; rfl) (by unfold maxLen; omega) (by omega) (by simp; omega) ?_); intro v4 w8 hown3 hgrow; obtain ⟨g4, cap4, rfl, hg4⟩ := own_some hown3)
          have hb8 : Below w1.heap.size w1 w8 := (bl_alloc (o := .cells #[.int .i64 (i : Int)] 2) HBB7.out).grown hgrow (by simp; omega) (fun q hq => (HO7.out.lt q hq).1)
          have hown5 : w8.ownsRow w1.heap.size 2 1 (.slice (some ⟨g4, 0, none⟩) (nn + 1) cap4) (hzTo p (i + 1)).length (flat N64_cells (hzTo p (i + 1))) := by
            rw [HY.out, flat_append, List.length_append, ← HNN.out]; exact hown3
          go_roundw
          case rel => exact ⟨i + 1, by omega, by go_num, hown5, hb8⟩
          case measure => simp [intOf]; omega
        · have HY : Hid (hzTo p (i + 1) = hzTo p i) := Lib.hid (hzTo_no p i gp)
          go_wp2
          go_roundw
          case rel => exact ⟨i + 1, by omega, by go_num, by rw [HY.out, ← HNN.out]; exact HO7.out, HBB7.out⟩
          case measure => simp [intOf]; omega
      · have hin : Hid (i = m.bd.ps.length) := Lib.hid (by omega)
        have hiI : ¬ (i : Int) < m.bd.ps.length := by omega
        have hown2 := own_mono (base := w.heap.size) HOWN.out (by have h1 := HB1.out.size; simp only [World.size_alloc] at h1; omega)
        have HOW2 := Lib.hid hown2
        rw [hin.out] at HNN
        clear hown2 hown hnn
        have HOW3 : Hid (wr.ownsRow w.heap.size 2 1 (.slice av2 nn capv2) nn (flat N64_cells (hzTo p m.bd.ps.length))) := Lib.hid (by rw [← hin.out]; exact HOW2.out)
        go_wp2
        go_ret2
        exact ⟨_, rfl, by rw [← HNN.out]; exact HOW3.out, bl_trans HBA.out HBW.out⟩
  · have HC : Hid (mCode m = 1) := Lib.hid (by unfold mCode; rw [if_neg (by simp [g1])])
    have HL : Hid (ulList m = []) := Lib.hid (by unfold ulList; rw [if_neg (by simp [g1])])
    rw [HC.out, HL.out]
    rw [HC.out] at HMT
    clear g1 HC HL
    go_enter Tryz.func35, Tryz.ntmps35
    go_wp2_with fail
    refine (HMT.out _ HBA.out).mono ?_
    rintro e w1 ⟨v1, rfl, -, hb1⟩
    have hb01 := bl_trans HBA.out hb1
    go_wp2
    go_ret2
    exact ⟨_, rfl, World.ownsRow_nil _ _ _ _, hb01⟩
end Go.Proofs.YtmeefmoblkiebaaGreat
/- Contracts: copies of boards and machines (the reference). -/
namespace Go.Proofs.YtmeefmoblkiebaaGreat
open Go.RowKit
set_option linter.unusedVariables false
set_option linter.unusedSimpArgs false
set_option maxHeartbeats 400000
set_option maxRecDepth 100000
/-- 'append(v, x...)' at a step of a region that draws, x any slice that reads as 'news'. -/
theorem step_append_sl {P : Program} {ops : Array Oper} {o : Oper} {a : Act} {w : World} {K : Act → World → Prop} {Q : Exit → Act → World → Prop} {E : Prop} (hgd : o.guard = none) (s x : Operand) (t : TypeId)
    (ho : o.op = .call { callee := .builtin .append, args := #[s, x], argTypes := #[t, t] })
    (base : Nat) (e : TypeId) (i : TypeInfo) (z : Value) (size bytes : Nat) (ht : P.underlying t = some (.slice e)) (hi : P.info? e = some i) (hz : i.zero = some z)
    (hsize : i.size = size) (hby : i.bytes = bytes) (hzs : z.cells.size = size) (hsz : 0 < size)
    (v : Value) (n : Nat) (xs : List Value) (hs : a.eval s = v) (hown : w.ownsRow base e size v n xs)
    (ad : Option Addr) (m c : Nat) (news : List Value) (hx : a.eval x = .slice ad m c) {B : Nat} (hsl : SlAt B w ad news) (hl : news.length = m * size) (h1 : ∀ u ∈ news, u.oneCell' = true)
    (h63 : n + m ≤ maxLen) (hbytes : (n + m) * bytes ≤ 140737488355328) (hbase : base ≤ w.heap.size)
    (h : ∀ v' w', w'.ownsRow base e size v' (n + m) (xs ++ news) → w.grownBy w' v.ownBlock → (v'.ownBlock = v.ownBlock ∨ v'.ownBlock = some w.heap.size) → K (a.put o.dst v') w') :
    if Region.wanted o (yielded ops a.tmps) = true then Oper.wp P o a w K Q else E := by
  have hw : Region.wanted o (yielded ops a.tmps) = true := by simp [Region.wanted, hgd]
  rw [if_pos hw]
  have hrun : ∃ v' w', (Builtin.append_ #[t, t] o.type #[v, .slice ad m c]).run P w = .ok v' w' ∧ w'.ownsRow base e size v' (n + m) (xs ++ news) ∧ w.grownBy w' v.ownBlock ∧ (v'.ownBlock = v.ownBlock ∨ v'.ownBlock = some w.heap.size) := by
    cases ad with
    | none =>
      have hn : news = [] := by
        cases news with
        | nil => rfl
        | cons u us => obtain ⟨b, off, h0, -⟩ := hsl 0 (by simp); cases h0
      subst hn
      have hm : m = 0 := by
        have h2 : m * size = 0 := by simpa using hl.symm
        rcases Nat.mul_eq_zero.1 h2 with h3 | h3
        · exact h3
        · omega
      subst hm
      exact ⟨v, w, run_append_nothing (P := P) w base t o.type e i size ht hi v n xs hown c, by simpa using hown, World.grownBy.refl _ _, .inl rfl⟩
    | some ad =>
      obtain ⟨v', w', h2, h3, h4, -, h5⟩ := run_append_own_at (P := P) (w := w) base t o.type e i z size bytes ht hi hz hsize hby hzs hsz v n xs hown ad m c news hl (fun j u hu => by
        have hj : j < news.length := (List.getElem?_eq_some_iff.1 hu).1
        obtain ⟨b, off, h0, -, h3⟩ := hsl j hj
        cases h0
        rw [List.getElem?_eq_getElem hj] at hu
        cases hu
        have : (⟨b, off, none⟩ : Addr).add j = ⟨b, off + j, none⟩ := by unfold Addr.add; split <;> simp_all
        rw [this]; exact h3) h1 h63 hbytes hbase
      exact ⟨v', w', h2, h3, h4, h5⟩
  obtain ⟨v', w', h2, h3, h4, h5⟩ := hrun
  unfold Oper.wp
  simp [execOp, ho, resolve, invoke, builtin, hs, hx, h2, Result.andThen]
  exact h v' w' h3 h4 h5
theorem l01Copy_any (b0 : Nat) (l : Bd) (w : World) (h : BP w b0 l) (hn : l.ps.length ≤ 10000) :
    Calls Tryz.prog 140 #[.pointer (some ⟨b0, 0, none⟩)] w fun e w' => ∃ v, e = .returned (bdv l.wd l.hg v) ∧ w'.ownsRow w.heap.size 49 5 v l.ps.length (flat Pc.cells l.ps) ∧ Below w.heap.size w w' := by
  obtain ⟨i0, hi0, hz0, hz1, hz2⟩ := info_parts Tryz.infoPiece
  obtain ⟨hbl, s, ⟨c0, c1, c2⟩, a, cap, rfl, hps⟩ := h
  have hb1 : Below w.heap.size w (w.alloc (.cells #[.int .i8 0, .int .i8 0, .slice none 0 0] 27)) := bl_alloc (Below.refl _ _)
  have hz1' : (w.alloc (.cells #[.int .i8 0, .int .i8 0, .slice none 0 0] 27)).heap.size = w.heap.size + 1 := by simp
  have HX := Lib.hid (BF3.new w (.int .i8 0) (.int .i8 0) (.slice none 0 0) 27)
  go_enter Tryz.func140, Tryz.ntmps140
  go_wp2_with fail
  obtain ⟨w1, hw1⟩ : ∃ w1, w1 = w.alloc (.cells #[.int .i8 0, .int .i8 0, .slice none 0 0] 27) := ⟨_, rfl⟩
  rw [← hw1] at hb1 hz1' HX ⊢
  obtain ⟨g, hg⟩ : ∃ g, g = w.heap.size := ⟨_, rfl⟩
  rw [← hg] at HX ⊢
  have hbl1 : b0 < w1.heap.size := by omega
  have hgl1 : g < w1.heap.size := by omega
  have hgl : w.heap.size ≤ g := by omega
  have hlt : w.heap.size < w1.heap.size := by omega
  have d0 : w1.cell? ⟨b0, 0, none⟩ = some (.int .i8 l.wd) := by rw [hb1.cell (p := ⟨b0, 0, none⟩) hbl]; exact c0
  have d1 : w1.cell? ⟨b0, 1, none⟩ = some (.int .i8 l.hg) := by rw [hb1.cell (p := ⟨b0, 1, none⟩) hbl]; exact c1
  have d2 : w1.cell? ⟨b0, 2, none⟩ = some (.slice a l.ps.length cap) := by rw [hb1.cell (p := ⟨b0, 2, none⟩) hbl]; exact c2
  have HB1 := Lib.hid hb1
  have HPS := Lib.hid (fun w2 (hb : Below w1.heap.size w1 w2) => hps.below (bl_trans hb1 hb) (Nat.le_refl _))
  clear hw1 hg hz1' d0 d1 d2
  obtain ⟨-, x0, x1, x2, f0, f1, f2⟩ := HX.out
  go_region_held3 (fun w' => Below w.heap.size w w' ∧ ∀ b o, b < w.heap.size → w'.cell? ⟨b, o, none⟩ = w.cell? ⟨b, o, none⟩) ((refine ext_s ?_; exact (by repeat (first | with_reducible exact Below.refl _ _ | with_reducible assumption | with_reducible apply bl_drewN | with_reducible apply bl_drew | with_reducible apply bl_alloc | (with_reducible refine bl_set ?_ (by first | (simp; done) | (simp; omega)) _) | with_reducible refine bl_trans ?_ (by with_reducible assumption))))) (first | (refine step_append_sl (by rfl) _ _ _ (by rfl) w1.heap.size 49 i0 _ 5 5 Tryz.underlying25 hi0 hz0 hz1 hz2 rfl (by omega) (.slice (some ⟨_, 0, none⟩) 0 0) 0 [] (by rfl) (own_mono (World.ownsRow_made _ #[] 0 (Nat.le_refl _) (by simp [maxLen]) rfl) (by first | omega | (simp; done) | (simp; omega))) a l.ps.length cap (flat Pc.cells l.ps) (by rfl) (HPS.out _ (by repeat (first | with_reducible exact Below.refl _ _ | with_reducible assumption | with_reducible apply bl_drewN | with_reducible apply bl_drew | with_reducible apply bl_alloc | (with_reducible refine bl_set ?_ (by first | (simp; done) | (simp; omega)) _) | with_reducible refine bl_trans ?_ (by with_reducible assumption)))) (flat_length Pc.len l.ps) (one_cells Pc.one l.ps) (by unfold maxLen; omega) (by omega) (by first | omega | (simp; done) | (simp; omega)) ?_; intro v3 w3 hown3 hgrow3 hblk3; have bN : Below w1.heap.size w1 w3 := bl_grown (by repeat (first | with_reducible exact Below.refl _ _ | with_reducible assumption | with_reducible apply bl_drewN | with_reducible apply bl_drew | with_reducible apply bl_alloc | (with_reducible refine bl_set ?_ (by first | (simp; done) | (simp; omega)) _) | with_reducible refine bl_trans ?_ (by with_reducible assumption))) hgrow3 (by intro k hk; have hk2 : some _ = some k := hk; cases hk2; first | exact Nat.le_refl _ | (simp; done) | (simp; omega)); obtain ⟨a3, cap3, rfl, -⟩ := own_at hown3; obtain ⟨hcN, hfN⟩ := bcell bN))
  rw [Nat.zero_add, List.nil_append] at hown3
  have HO3 := Lib.hid hown3
  have HB3 := Lib.hid (bl_trans HB1.out bN)
  have y0 : w3.cell? ⟨g, 0, none⟩ = some (.int .i8 0) := by rw [hcN _ _ hgl1]; exact x0
  have y1 : w3.cell? ⟨g, 1, none⟩ = some (.int .i8 0) := by rw [hcN _ _ hgl1]; exact x1
  have y2 : w3.cell? ⟨g, 2, none⟩ = some (.slice none 0 0) := by rw [hcN _ _ hgl1]; exact x2
  clear hcN hfN hown3 hgrow3 x0 x1 x2
  go_wp2
  refine bodyPost_ret (v := bdv l.wd l.hg (.slice a3 l.ps.length cap3)) (by simp [results, Tryz.results140, go_sem, y0, y1, y2]) rfl ⟨_, rfl, ?_, bl_set (bl_set (bl_set HB3.out hgl _) hgl _) hgl _⟩
  refine own_mono (base' := w1.heap.size) ?_ (by omega)
  repeat (with_reducible refine ownsRow_setCell_below ?_ (by first | (simp; done) | (simp; omega)) _)
  exact HO3.out
end Go.Proofs.YtmeefmoblkiebaaGreat
/- Contracts: boards that are moved (spec.MoveBoard), where all fits. -/
namespace Go.Proofs.YtmeefmoblkiebaaGreat
open Go.RowKit
set_option linter.unusedVariables false
set_option linter.unusedSimpArgs false
set_option maxHeartbeats 400000
set_option maxRecDepth 100000
theorem pc_own_set {w : World} {base g n cap : Nat} {xs : List Value} (h : w.ownsRow base 49 5 (.slice (some ⟨g, 0, none⟩) n cap) n xs) (j : Nat) (v : Value) :
    ((w.setCell ⟨g, j, none⟩ v).drew).ownsRow base 49 5 (.slice (some ⟨g, 0, none⟩) n cap) n (xs.set j v) :=
  own_below (h.stored j v).1 (bl_drew (Below.refl _ _)) (Nat.le_refl _)
set_option maxHeartbeats 1600000 in
theorem specMoveBoard_ok (wd hg : Int) (s : Value) (ps : List Pc) (e d : Int) (w : World) (hps : PV w s ps) (hok : (Bd.mk wd hg ps).ok) (hv : vBd ⟨wd, hg, ps⟩ = true) (hok2 : (Bd.mk wd hg (ps.map (mvPc e d))).ok) (hv2 : vBd ⟨wd, hg, ps.map (mvPc e d)⟩ = true) (hn : ps.length ≤ 60) (he : 0 ≤ e ∧ e ≤ 10) (hd : 0 ≤ d ∧ d ≤ 10) (h0 : 0 < ps.length)
    (hin : ∀ i (hi : i < ps.length), ((0 ≤ ps[i].x ∧ ps[i].x ≤ 23) ∧ 0 ≤ ps[i].y ∧ ps[i].y ≤ 23) ∧ ps[i].x + e < wd ∧ ps[i].y + d < hg) :
    Calls Tryz.prog 95 #[bdv wd hg s, .int .i64 e, .int .i64 d] w fun r w' => ∃ v, r = .returned (.tuple #[bdv wd hg v, .int .i64 0]) ∧ w'.ownsRow w.heap.size 49 5 v ps.length (flat Pc.cells (ps.map (mvPc e d))) ∧ Below w.heap.size w w' := by
  obtain ⟨a, cap, rfl, hps⟩ := hps
  obtain ⟨W2, hW2⟩ : ∃ W2, W2 = (w.alloc (.cells #[.int .i8 wd, .int .i8 hg, .slice a ps.length cap] 27)).alloc (.cells #[.int .i8 0, .int .i8 0, .slice none 0 0] 27) := ⟨_, rfl⟩
  have B02 : Below w.heap.size w W2 := by rw [hW2]; exact bl_alloc (bl_alloc (Below.refl _ _))
  have z2 : w.heap.size + 1 < W2.heap.size := by rw [hW2]; simp
  have q0 : W2.heap[w.heap.size]? = some (.cells #[.int .i8 wd, .int .i8 hg, .slice a ps.length cap] 27 (0, 0)) := by
    rw [hW2]
    have h9 := bl_alloc (o := .cells #[.int .i8 0, .int .i8 0, .slice none 0 0] 27) (Below.refl (w.alloc (.cells #[.int .i8 wd, .int .i8 hg, .slice a ps.length cap] 27)).heap.size (w.alloc (.cells #[.int .i8 wd, .int .i8 hg, .slice a ps.length cap] 27)))
    rw [h9.block w.heap.size (by simp)]
    exact heap_alloc_new _ _
  have q1 : W2.heap[w.heap.size + 1]? = some (.cells #[.int .i8 0, .int .i8 0, .slice none 0 0] 27 (0, 0)) := by
    rw [hW2]
    have := heap_alloc_new (w.alloc (.cells #[.int .i8 wd, .int .i8 hg, .slice a ps.length cap] 27)) (.cells #[.int .i8 0, .int .i8 0, .slice none 0 0] 27)
    simpa using this
  have HPS := Lib.hid (fun u (hb : Below w.heap.size w u) => hps.below hb (Nat.le_refl _))
  have HBP0 : Hid (∀ u, Below w.heap.size w u → u.heap[w.heap.size]? = some (.cells #[.int .i8 wd, .int .i8 hg, .slice a ps.length cap] 27 (0, 0)) → BP u w.heap.size ⟨wd, hg, ps⟩) := Lib.hid (by
    intro u hb hq
    obtain ⟨x0, x1, x2, -⟩ := three_cells hq
    exact ⟨lt_of_block hq, _, ⟨x0, x1, x2⟩, a, cap, rfl, (HPS.out u hb).mono hb.size⟩)
  have HVB := Lib.hid (l01Ok_any w.heap.size ⟨wd, hg, ps⟩ W2 (HBP0.out W2 B02 q0) hok (by show ps.length ≤ 10000000; omega))
  have hie : inB e (-24) 24 = true := by simp [inB]; omega
  have hid' : inB d (-24) 24 = true := by simp [inB]; omega
  have HIE := Lib.hid hie
  have HID := Lib.hid hid'
  have HV := Lib.hid hv
  have HV2 := Lib.hid hv2
  have HOK2 := Lib.hid hok2
  have HQ0 := Lib.hid q0
  have HQ1 := Lib.hid q1
  have HB02 := Lib.hid B02
  clear hie hid' hv hv2 hok2 q0 q1 B02 hps
  go_enter Tryz.func95, Tryz.ntmps95
  go_upto_region 1 with fail
  rw [← hW2]
  clear hW2
  go_wp2_with fail
  refine HVB.out.mono ?_
  rintro r W3 ⟨rfl, hb3⟩
  rw [HV.out]
  have HB03 := Lib.hid (bl_trans HB02.out hb3)
  have q0 := (hb3.block w.heap.size (by omega)).trans HQ0.out
  have q1 := (hb3.block (w.heap.size + 1) z2).trans HQ1.out
  have z3 := hb3.size
  have HCL := Lib.hid (l01Copy_any w.heap.size ⟨wd, hg, ps⟩ W3 (HBP0.out W3 HB03.out q0) (by show ps.length ≤ 10000; omega))
  clear hb3 HVB HQ0 HQ1 HB02
  have HQ0 := Lib.hid q0
  have HQ1 := Lib.hid q1
  clear q0 q1
  go_wp2_with fail
  refine (l00In_any _ _ _ _).mono ?_
  rintro r w' ⟨rfl, rfl⟩
  rw [HIE.out]
  go_wp2_with fail
  refine (l00In_any _ _ _ _).mono ?_
  rintro r w' ⟨rfl, rfl⟩
  rw [HID.out]
  go_wp2_with fail
  refine HCL.out.mono ?_
  rintro r W5 ⟨v1, rfl, hown, hb5⟩
  obtain ⟨g, gc, rfl, hg3, hg4⟩ := own_posM hown h0
  have hb56 : Below W5.heap.size W5 (W5.alloc (.cells #[.int .i8 wd, .int .i8 hg, .slice (some ⟨g, 0, none⟩) ps.length gc] 27)) := bl_alloc (Below.refl _ _)
  have hb36 := bl_trans hb5 hb56
  have HX : Hid (Bx3 (W5.alloc (.cells #[.int .i8 wd, .int .i8 hg, .slice (some ⟨g, 0, none⟩) ps.length gc] 27)) W5.heap.size (.int .i8 wd) (.int .i8 hg) (.slice (some ⟨g, 0, none⟩) ps.length gc)) := Lib.hid (Bx3.new _ _ _ _ _)
  have hown6 := own_below hown hb56 (Nat.le_refl _)
  have q0 := (hb36.block w.heap.size (by omega)).trans HQ0.out
  have q1 := (hb36.block (w.heap.size + 1) (by omega)).trans HQ1.out
  have hb06 := bl_trans HB03.out hb36
  have z5 := hb5.size
  obtain ⟨bx, hbx⟩ : ∃ bx, bx = W5.heap.size := ⟨_, rfl⟩
  obtain ⟨W6, hW6⟩ : ∃ W6, W6 = W5.alloc (.cells #[.int .i8 wd, .int .i8 hg, .slice (some ⟨g, 0, none⟩) ps.length gc] 27) := ⟨_, rfl⟩
  rw [← hW6] at HX hown6 q0 q1 hb06
  rw [← hbx] at HX
  have hgx : g < bx := by omega
  have hz6 : bx < W6.heap.size := HX.out.1
  have HQ0 := Lib.hid q0
  have HQ1 := Lib.hid q1
  have HO6 := Lib.hid hown6
  have HB06 := Lib.hid hb06
  clear hb56 hb36 hb5 HB03 q0 q1 hown6 hb06 hown HCL
  go_upto_region 6 with fail
  rw [← hW6, ← hbx]
  clear hW6 hbx
  go_wp2_with fail
  go_loopw [9] (fun i wr => ∃ k : Nat, k ≤ ps.length ∧ i = .int .i64 (k : Int) ∧ HpK g W6 wr ∧ wr.ownsRow W3.heap.size 49 5 (.slice (some ⟨g, 0, none⟩) ps.length gc) ps.length (flat Pc.cells (mvTo e d ps k)) ∧ Below w.heap.size w wr) (fun i _ => ps.length - (intOf i).toNat)
  case atStart => exact ⟨0, by omega, rfl, HpK.refl _ _, by rw [mvTo_zero]; exact HO6.out, HB06.out⟩
  case round =>
    obtain ⟨k, hk, rfl, hlp, hown, hbw⟩ := hrel
    obtain ⟨W7, hW7⟩ : ∃ W7, W7 = wr := ⟨_, rfl⟩
    subst hW7
    have hbxg : bx ≠ g := by omega
    have hX2 : W7.cell? ⟨bx, 2, none⟩ = some (.slice (some ⟨g, 0, none⟩) ps.length gc) := by rw [hlp.cell hz6 hbxg]; exact HX.out.2.2.2
    have HLP := Lib.hid hlp
    have HOW := Lib.hid hown
    have HBW := Lib.hid hbw
    have hz7 : W6.heap.size ≤ W7.heap.size := hlp.1
    clear hlp hown hbw
    by_cases hlt : (k : Int) < (ps.length : Int)
    · have hlt' : k < ps.length := by omega
      obtain ⟨⟨c0, c1⟩, f0, f1⟩ := pc_own HOW.out (mvTo_len e d ps k).symm k (by rw [mvTo_len]; exact hlt')
      rw [mvTo_at e d ps k hlt'] at c0 c1
      obtain ⟨P, hP⟩ : ∃ P, P = ps[k] := ⟨_, rfl⟩
      have hinP : ((0 ≤ P.x ∧ P.x ≤ 23) ∧ 0 ≤ P.y ∧ P.y ≤ 23) ∧ P.x + e < wd ∧ P.y + d < hg := by rw [hP]; exact hin k hlt'
      rw [← hP] at c0 c1
      have HPP := Lib.hid hP
      have e1 := wrap8s e (by omega)
      have e2 := wrap8s d (by omega)
      have e3 := wrap8s (P.x + e) (by omega)
      have e4 := wrap8s (P.y + d) (by omega)
      have HO8 := Lib.hid (pc_own_set (pc_own_set HOW.out (k * 5) (.int .i8 (P.x + e))) (k * 5 + 1) (.int .i8 (P.y + d)))
      rw [flat_xy _ k (by rw [mvTo_len]; exact hlt')] at HO8
      have hset : (mvTo e d ps k).set k ⟨P.x + e, P.y + d, ((mvTo e d ps k)[k]'(by rw [mvTo_len]; exact hlt')).k, ((mvTo e d ps k)[k]'(by rw [mvTo_len]; exact hlt')).t, ((mvTo e d ps k)[k]'(by rw [mvTo_len]; exact hlt')).d⟩ = mvTo e d ps (k + 1) := by
        rw [mvTo_succ e d ps k hlt']
        congr 1
        rw [mvTo_at e d ps k hlt', HPP.out]
        rfl
      rw [hset] at HO8
      have HLP8 := Lib.hid ((((HLP.out.set (k * 5) (.int .i8 (P.x + e))).below (bl_drew (Below.refl _ _))).set (k * 5 + 1) (.int .i8 (P.y + d))).below (bl_drew (Below.refl _ _)))
      have hgw : w.heap.size ≤ g := by omega
      have HBW8 := Lib.hid (bl_drew (bl_set (bl_drew (bl_set HBW.out (p := ⟨g, k * 5, none⟩) hgw (.int .i8 (P.x + e)))) (p := ⟨g, k * 5 + 1, none⟩) hgw (.int .i8 (P.y + d))))
      clear hset hP
      go_upto_region 10 with fail
      go_still_tail 9, (by kernel_rfl)
      change wpList _ _ _ _ _ W7.drew
      go_wp2
      go_upto_region 11 with fail
      obtain ⟨W8, hW8⟩ : ∃ W8, W8 = (W7.setCell ⟨g, k * 5, none⟩ (.int .i8 (P.x + e))).drew := ⟨_, rfl⟩
      have d1 : W8.cell? ⟨g, k * 5 + 1, none⟩ = some (.int .i8 P.y) := by
        rw [hW8]
        show (W7.setCell ⟨g, k * 5, none⟩ (.int .i8 (P.x + e))).cell? ⟨g, k * 5 + 1, none⟩ = _
        rw [World.cell?_setCell_other _ _ _ _ (by simp)]
        exact c1
      have g1 : W8.frozen? ⟨g, k * 5 + 1, none⟩ = false := by
        rw [hW8]
        show (W7.setCell ⟨g, k * 5, none⟩ (.int .i8 (P.x + e))).frozen? ⟨g, k * 5 + 1, none⟩ = _
        simpa using f1
      rw [← hW8] at HO8 HLP8 HBW8 ⊢
      clear hW8 c0 c1 f0 f1 hX2
      go_still_tail 9, (by kernel_rfl)
      change wpList _ _ _ _ _ W8.drew
      go_wp2
      obtain ⟨W9, hW9⟩ : ∃ W9, W9 = (W8.setCell ⟨g, k * 5 + 1, none⟩ (.int .i8 (P.y + d))).drew := ⟨_, rfl⟩
      rw [← hW9] at HO8 HLP8 HBW8
      clear d1 g1
      go_roundw
      case rel => exact ⟨k + 1, by omega, by go_num, by rw [← hW9]; exact ⟨HLP8.out, HO8.out, HBW8.out⟩⟩
      case measure => simp [intOf]; omega
    · have hkl : k = ps.length := by omega
      have q1 : W7.heap[w.heap.size + 1]? = some (.cells #[.int .i8 0, .int .i8 0, .slice none 0 0] 27 (0, 0)) := (HLP.out.2 _ (lt_of_block HQ1.out) (by omega)).trans HQ1.out
      have HY : Hid (Bx3 W7 bx (.int .i8 wd) (.int .i8 hg) (.slice (some ⟨g, 0, none⟩) ps.length gc)) := Lib.hid (by
        obtain ⟨-, y0, y1, y2⟩ := HX.out
        refine ⟨by omega, ?_, ?_, ?_⟩
        · rw [HLP.out.cell hz6 hbxg]; exact y0
        · rw [HLP.out.cell hz6 hbxg]; exact y1
        · exact hX2)
      have hown := HOW.out
      rw [hkl, mvTo_all] at hown
      have hbp7 : BP W7 bx ⟨wd, hg, ps.map (mvPc e d)⟩ := ⟨by omega, _, ⟨HY.out.2.1, HY.out.2.2.1, by rw [HY.out.2.2.2]⟩, by
        exact pv_own (ps := ps.map (mvPc e d)) (by rw [List.length_map]; exact hown)⟩
      have HVB2 := Lib.hid (l01Ok_any bx ⟨wd, hg, ps.map (mvPc e d)⟩ W7 hbp7 HOK2.out (by show (ps.map (mvPc e d)).length ≤ 10000000; rw [List.length_map]; omega))
      have HOE := Lib.hid hown
      have HQ7 := Lib.hid q1
      clear hown hbp7 q1
      go_wp2_with fail
      refine HVB2.out.mono ?_
      rintro r W8 ⟨rfl, hb8⟩
      rw [HV2.out]
      have q1 := (hb8.block (w.heap.size + 1) (lt_of_block HQ7.out)).trans HQ7.out
      obtain ⟨z0, z1, z2', zf⟩ := three_cells q1
      obtain ⟨-, y0, y1, y2⟩ := Bx3.step HY.out hb8
      have HOF := Lib.hid (own_below HOE.out hb8 (Nat.le_refl _))
      have HBF := Lib.hid (bl_trans HBW.out hb8)
      clear hX2 hb8
      go_wp2_with fail
      have hh := set_block (set_block (set_block q1 0 (.int .i8 wd)) 1 (.int .i8 hg)) 2 (.slice (some ⟨g, 0, none⟩) ps.length gc)
      obtain ⟨u0, u1, u2, -⟩ := three_cells hh
      have hgne : ∀ q, (Value.slice (some ⟨g, 0, none⟩) ps.length gc).ownBlock = some q → some q ≠ some (w.heap.size + 1) := fun q hq e => by
        have h9 : some g = some q := hq
        cases h9
        simp at e
        omega
      refine bodyPost_ret (v := .tuple #[bdv wd hg (.slice (some ⟨g, 0, none⟩) ps.length gc), .int .i64 0]) (by simp [results, Tryz.results95, go_sem, u0, u1, u2]) rfl ⟨_, rfl, ?_, ?_⟩
      · exact own_mono (own_kept (own_kept (own_kept HOF.out (grown_set1 _ _ 0 _) hgne) (grown_set1 _ _ 1 _) hgne) (grown_set1 _ _ 2 _) hgne) (by omega)
      · have HBE := HBF.out
        exact bl_set (bl_set (bl_set HBE (by show w.heap.size ≤ w.heap.size + 1; omega) _) (by show w.heap.size ≤ w.heap.size + 1; omega) _) (by show w.heap.size ≤ w.heap.size + 1; omega) _
end Go.Proofs.YtmeefmoblkiebaaGreat
