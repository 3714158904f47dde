import Derived.Test.YtmeefmoblkiebaaGreatK4
import Derived.BigRegion
import Derived.Deep.RegionHeld3
import Derived.Deep.CutRange
import Derived.StillTailTactics
import Derived.BigQuiet
/- Contracts: LastTick, FallenUntil, StandingAfter (both). -/
namespace Go.Proofs.YtmeefmoblkiebaaGreat
open Go.RowKit
set_option linter.unusedVariables false
set_option linter.unusedSimpArgs false
set_option maxHeartbeats 400000
set_option maxRecDepth 100000
theorem runOf_ge (ps : List Pc) (pl : List Pu) (k : Nat) (hk : k < (runOf ps pl).length) : -1 ≤ (runOf ps pl)[k].t := by
  have hkp : k < ps.length := by rw [← runOf_length ps pl]; exact hk
  have key : -1 ≤ ((runOf ps pl).getD k default).t := by
    unfold runOf
    split
    · rename_i h
      exact h.choose_spec.2.1 k hkp
    · rw [rep_get ps k hkp]; exact Int.le_refl _
  rw [getD_fa _ k hk] at key
  exact key
theorem cell_new0 (w : World) (u : Value) (T : TypeId) (g : Nat) (hg : g = w.heap.size) : (w.alloc (.cells #[u] T)).cell? ⟨g, 0, none⟩ = some u := by
  subst hg
  obtain ⟨b, off, h1, h2, h3⟩ := sl_new w #[u] T 0 (by simp)
  simp only [Option.some.injEq, Addr.mk.injEq, and_true] at h1
  obtain ⟨rfl, rfl⟩ := h1
  exact h3
/-- The greatest tick. -/
def lastTo (fs : List Fa) (k : Nat) : Int := (fs.take k).foldl (fun m f => max m f.t) (-1)
def lastF (fs : List Fa) : Int := lastTo fs fs.length
theorem lastTo_succ (fs : List Fa) (k : Nat) (hk : k < fs.length) : lastTo fs (k + 1) = max (lastTo fs k) fs[k].t := by
  unfold lastTo
  rw [List.take_succ_eq_append_getElem hk, List.foldl_append]
  rfl
theorem lastTo_ge (fs : List Fa) (k : Nat) (hk : k ≤ fs.length) : -1 ≤ lastTo fs k := by
  induction k with
  | zero => unfold lastTo; simp
  | succ k ih =>
    rw [lastTo_succ fs k (by omega)]
    have := ih (by omega)
    omega
noncomputable def ltCode (l : Bd) (pl : List Pu) : Int := if (vBd l && vPus l pl) = true then (if lastF (runOf l.ps pl) < 0 then 6 else 0) else 1
noncomputable def ltVal (l : Bd) (pl : List Pu) : Int := if (vBd l && vPus l pl) = true then (if lastF (runOf l.ps pl) < 0 then 0 else lastF (runOf l.ps pl)) else 0
def fuCode (l : Bd) (pl : List Pu) (t : Int) : Int := if (vBd l && vPus l pl) = true then (if inB t 0 1000000 = true then 0 else 2) else 1
noncomputable def fuList (l : Bd) (pl : List Pu) (t : Int) : List Int := if fuCode l pl t = 0 then idxP (fun f => inB f.t 0 t) (runOf l.ps pl) else []
noncomputable def saList (l : Bd) (pl : List Pu) : List Int := if (vBd l && vPus l pl) = true then idxP (fun f => decide (f.t < 0)) (runOf l.ps pl) else []
theorem idxP_len (p : Fa → Bool) (fs : List Fa) : (idxP p fs).length ≤ fs.length := idxTo_len p fs fs.length
theorem fuList_len (l : Bd) (pl : List Pu) (t : Int) : (fuList l pl t).length ≤ l.ps.length := by
  unfold fuList
  split
  · exact Nat.le_trans (idxP_len _ _) (runOf_len _ _)
  · exact Nat.zero_le _
theorem saList_len (l : Bd) (pl : List Pu) : (saList l pl).length ≤ l.ps.length := by
  unfold saList
  split
  · exact Nat.le_trans (idxP_len _ _) (runOf_len _ _)
  · exact Nat.zero_le _
theorem runOf_len200 (l : Bd) (pl : List Pu) (hv : vBd l = true) : (runOf l.ps pl).length ≤ 200 := by
  have c5 : l.ps.length ≤ 200 := (vBd_bounds _ hv).2.2.2.2
  exact Nat.le_trans (runOf_len _ _) c5
theorem lastTick_any (wd hg : Int) (s : Value) (ps : List Pc) (v1 : Value) (pl : List Pu) (w : World) (hps : PV w s ps) (hok : (Bd.mk wd hg ps).ok) (hn : ps.length ≤ 9000000) (h1 : SV Pu.cells w v1 pl) (ok1 : PusOk pl) (n1 : pl.length ≤ 9000000) :
    Calls Tryz.prog 14 #[bdv wd hg s, v1] w fun e w' => e = .returned (.tuple #[.int .i64 (ltVal ⟨wd, hg, ps⟩ pl), .int .i64 (ltCode ⟨wd, hg, ps⟩ pl)]) ∧ Below w.heap.size w w' := by
  have HRB := Lib.hid (fun w1 (hb : Below w.heap.size w w1) => implRunBoard_any wd hg s ps v1 pl w1 (hps.step hb) hok hn (h1.step hb) ok1 n1)
  obtain ⟨a, cap, rfl, -⟩ := hps
  obtain ⟨a1, cap1, rfl, -⟩ := h1
  cases g1 : (vBd ⟨wd, hg, ps⟩ && vPus ⟨wd, hg, ps⟩ pl) with
  | true =>
    obtain ⟨hv, hpl, hin, hn20⟩ := ask_ok _ _ g1
    have HC0 : Hid (rbCode ⟨wd, hg, ps⟩ pl = 0) := Lib.hid (by unfold rbCode; rw [g1]; rfl)
    have HL0 : Hid (rbList ⟨wd, hg, ps⟩ pl = runOf ps pl) := Lib.hid (by unfold rbList; rw [g1]; rfl)
    have HC : Hid (ltCode ⟨wd, hg, ps⟩ pl = (if lastF (runOf ps pl) < 0 then 6 else 0)) := Lib.hid (by unfold ltCode; rw [g1]; rfl)
    have HL : Hid (ltVal ⟨wd, hg, ps⟩ pl = (if lastF (runOf ps pl) < 0 then 0 else lastF (runOf ps pl))) := Lib.hid (by unfold ltVal; rw [g1]; rfl)
    have HN := Lib.hid (runOf_len200 ⟨wd, hg, ps⟩ pl hv)
    rw [HC.out, HL.out]
    rw [HC0.out, HL0.out] at HRB
    obtain ⟨fs, hfs⟩ : ∃ fs, fs = runOf ps pl := ⟨_, rfl⟩
    have hn2 : fs.length ≤ 200 := by rw [hfs]; exact HN.out
    rw [← hfs] at HRB ⊢
    obtain ⟨lv, hlv⟩ : ∃ lv, lv = (if lastF fs < 0 then 0 else lastF fs) := ⟨_, rfl⟩
    obtain ⟨lc, hlc⟩ : ∃ lc : Int, lc = (if lastF fs < 0 then 6 else 0) := ⟨_, rfl⟩
    rw [← hlv, ← hlc]
    have HLV : Hid (lv = (if lastTo fs fs.length < 0 then 0 else lastTo fs fs.length)) := Lib.hid hlv
    have HLC : Hid (lc = (if lastTo fs fs.length < 0 then 6 else 0)) := Lib.hid hlc
    clear hlv hlc
    clear g1 HC HL HC0 HL0 hpl hin hv hfs HN
    go_enter Tryz.func14, Tryz.ntmps14
    go_wp2_with fail
    refine (HRB.out _ (by repeat (first | with_reducible exact Below.refl _ _ | with_reducible assumption | with_reducible apply bl_drewN | with_reducible apply bl_drew | with_reducible apply bl_alloc | (with_reducible refine bl_set ?_ (by first | (simp; done) | (simp; omega)) _) | with_reducible refine bl_trans ?_ (by with_reducible assumption)))).mono ?_
    rintro e w2 ⟨v, rfl, hown, hb2⟩
    obtain ⟨av, capv, hve, hsl, -, -⟩ := own_at hown
    subst hve
    have hb02 : Below w.heap.size w w2 := (by repeat (first | with_reducible exact Below.refl _ _ | with_reducible assumption | with_reducible apply bl_drewN | with_reducible apply bl_drew | with_reducible apply bl_alloc | (with_reducible refine bl_set ?_ (by first | (simp; done) | (simp; omega)) _) | with_reducible refine bl_trans ?_ (by with_reducible assumption)))
    have HCT := Lib.hid (fun k hk => lastTo_succ fs k hk)
    have HGE := Lib.hid (lastTo_ge fs fs.length (Nat.le_refl _))
    clear hown hb2
    go_wp2
    go_loopw [8, 22] (fun cx ix wr => ∃ k : Nat, k ≤ fs.length ∧ ix = .int .i64 k ∧ cx = .int .i64 (lastTo fs k) ∧ Below w2.heap.size w2 wr) (fun _ ix _ => fs.length - (intOf ix).toNat)
    case atStart => exact ⟨0, by omega, rfl, rfl, (by repeat (first | with_reducible exact Below.refl _ _ | with_reducible assumption | with_reducible apply bl_drewN | with_reducible apply bl_drew | with_reducible apply bl_alloc | (with_reducible refine bl_set ?_ (by first | (simp; done) | (simp; omega)) _) | with_reducible refine bl_trans ?_ (by with_reducible assumption)))⟩
    case round =>
      obtain ⟨k, hk, rfl, rfl, hb⟩ := hrel
      by_cases hlt : k < fs.length
      · obtain ⟨b, off, rfl, hbl, hat⟩ := fas_get hsl hlt
        unfold FaAt at hat
        obtain ⟨a0, a1, a2⟩ := hat
        have r0 : wr.cell? ⟨b, off + k * 3, none⟩ = some (.int .i64 fs[k].t) := by rw [hb.cell (p := ⟨_, _, none⟩) hbl]; exact a0
        have r1 : wr.cell? ⟨b, off + k * 3 + 1, none⟩ = some (.int .i8 fs[k].f) := by rw [hb.cell (p := ⟨_, _, none⟩) hbl]; exact a1
        have r2 : wr.cell? ⟨b, off + k * 3 + 2, none⟩ = some (.int .i64 fs[k].b) := by rw [hb.cell (p := ⟨_, _, none⟩) hbl]; exact a2
        have HC := Lib.hid (HCT.out k hlt)
        obtain ⟨c, hc⟩ : ∃ c, c = lastTo fs k := ⟨_, rfl⟩
        rw [← hc] at HC ⊢
        obtain ⟨F, hF⟩ : ∃ F, F = fs[k] := ⟨_, rfl⟩
        rw [← hF] at HC r0 r1 r2
        clear hc hF a0 a1 a2
        go_wp2
        go_roundw
        case rel => exact ⟨k + 1, by omega, by go_num, by rw [HC.out], bl_alloc hb⟩
        case measure => simp [intOf]; omega
      · have hkn : k = fs.length := by omega
        subst hkn
        obtain ⟨c, hc⟩ : ∃ c, c = lastTo fs fs.length := ⟨_, rfl⟩
        have hge := HGE.out
        rw [← hc] at hge ⊢
        have HC9 := Lib.hid hc
        clear hc
        rcases dec_cases (c < 0) with ⟨g, g'⟩ | ⟨g, g'⟩
        · have hce : (c == -1) = true := by simp; omega
          go_wp2
          go_ret2
          exact ⟨by rw [HLV.out, HLC.out, ← HC9.out, if_pos g', if_pos g']; rfl, bl_trans hb02 hb⟩
        · have hce : (c == -1) = false := by simp; omega
          go_wp2
          go_ret2
          exact ⟨by rw [HLV.out, HLC.out, ← HC9.out, if_neg (Int.not_lt.2 g'), if_neg (Int.not_lt.2 g')]; rfl, bl_trans hb02 hb⟩
  | false =>
    have HC0 : Hid (rbCode ⟨wd, hg, ps⟩ pl = 1) := Lib.hid (by unfold rbCode; rw [g1]; rfl)
    have HC : Hid (ltCode ⟨wd, hg, ps⟩ pl = 1) := Lib.hid (by unfold ltCode; rw [g1]; rfl)
    have HL : Hid (ltVal ⟨wd, hg, ps⟩ pl = 0) := Lib.hid (by unfold ltVal; rw [g1]; rfl)
    rw [HC.out, HL.out]
    rw [HC0.out] at HRB
    clear g1 HC HL HC0
    go_enter Tryz.func14, Tryz.ntmps14
    go_wp2_with fail
    refine (HRB.out _ (by repeat (first | with_reducible exact Below.refl _ _ | with_reducible assumption | with_reducible apply bl_drewN | with_reducible apply bl_drew | with_reducible apply bl_alloc | (with_reducible refine bl_set ?_ (by first | (simp; done) | (simp; omega)) _) | with_reducible refine bl_trans ?_ (by with_reducible assumption)))).mono ?_
    rintro e w2 ⟨v, rfl, hown, hb2⟩
    have hb02 : Below w.heap.size w w2 := (by repeat (first | with_reducible exact Below.refl _ _ | with_reducible assumption | with_reducible apply bl_drewN | with_reducible apply bl_drew | with_reducible apply bl_alloc | (with_reducible refine bl_set ?_ (by first | (simp; done) | (simp; omega)) _) | with_reducible refine bl_trans ?_ (by with_reducible assumption)))
    go_wp2
    go_ret2
    exact ⟨rfl, hb02⟩
end Go.Proofs.YtmeefmoblkiebaaGreat
/- FallOrder: plain laws, and the reference's contract. -/
namespace Go.Proofs.YtmeefmoblkiebaaGreat
open Go.RowKit
set_option linter.unusedVariables false
set_option linter.unusedSimpArgs false
set_option maxHeartbeats 400000
set_option maxRecDepth 100000
def tki (fs : List Fa) (i : Int) : Int := (fs.getD i.toNat default).t
/-- The order of falls: ticks, then places. -/
def ltI (fs : List Fa) (i k : Int) : Prop := tki fs i < tki fs k ∨ (tki fs i = tki fs k ∧ i < k)
def fell (f : Fa) : Bool := decide (0 ≤ f.t)
def isOrd (fs : List Fa) (k : Nat) (xs : List Int) : Prop := xs.Perm (idxTo fell fs k) ∧ xs.Pairwise (ltI fs)
theorem isOrd_unique (fs : List Fa) (k : Nat) (xs ys : List Int) (hx : isOrd fs k xs) (hy : isOrd fs k ys) : xs = ys := by
  refine List.Perm.eq_of_pairwise (le := ltI fs) ?_ hx.2 hy.2 (hx.1.trans hy.1.symm)
  intro a b _ _ h1 h2
  unfold ltI at h1 h2
  omega
open Classical in
noncomputable def ordOf (fs : List Fa) : List Int := if h : ∃ xs, isOrd fs fs.length xs then h.choose else []
theorem ordOf_eq (fs : List Fa) (xs : List Int) (h : isOrd fs fs.length xs) : xs = ordOf fs := by
  have hx : ∃ ys, isOrd fs fs.length ys := ⟨xs, h⟩
  unfold ordOf
  rw [dif_pos hx]
  exact isOrd_unique fs _ _ _ h hx.choose_spec
theorem ordOf_len (fs : List Fa) : (ordOf fs).length ≤ fs.length := by
  unfold ordOf
  split
  · rename_i h
    have h1 := h.choose_spec.1.length_eq
    rw [h1]; exact idxTo_len _ _ _
  · exact Nat.zero_le _
noncomputable def foList (l : Bd) (pl : List Pu) : List Int := if (vBd l && vPus l pl) = true then ordOf (runOf l.ps pl) else []
theorem foList_len (l : Bd) (pl : List Pu) : (foList l pl).length ≤ l.ps.length := by
  unfold foList
  split
  · exact Nat.le_trans (ordOf_len _) (runOf_len _ _)
  · exact Nat.zero_le _
theorem idxTo_mem (p : Fa → Bool) (fs : List Fa) (k : Nat) (i : Int) (h : i ∈ idxTo p fs k) : ∃ n : Nat, i = (n : Int) ∧ n < k := by
  unfold idxTo at h
  rw [List.mem_map] at h
  obtain ⟨n, hn, rfl⟩ := h
  exact ⟨n, rfl, by have := (List.mem_filter.1 hn).1; exact List.mem_range.1 this⟩
theorem tki_at (fs : List Fa) (n : Nat) (h : n < fs.length) : tki fs (n : Int) = fs[n].t := by
  unfold tki
  rw [Int.toNat_natCast, getD_fa fs n h]
theorem ord_put (fs : List Fa) (k : Nat) (xs A C : List Int) (h : isOrd fs k xs) (he : A ++ C = xs) (hC : ∀ c ∈ C, tki fs k < tki fs c) (hA : ∀ a ∈ A.getLast?, tki fs a ≤ tki fs k) : (A ++ (k : Int) :: C).Pairwise (ltI fs) := by
  obtain ⟨h1, h2⟩ := h
  subst he
  rw [List.pairwise_append] at h2 ⊢
  obtain ⟨p1, p2, p3⟩ := h2
  have hAk : ∀ a ∈ A, ltI fs a k := by
    intro a ha
    obtain ⟨n, rfl, hn⟩ := idxTo_mem fell fs k a (h1.subset (List.mem_append_left _ ha))
    have hle : tki fs (n : Int) ≤ tki fs k := by
      rcases List.eq_nil_or_concat A with rfl | ⟨A', z, rfl⟩
      · cases ha
      · have hz := hA z (by simp)
        rcases (by simpa using ha : (n : Int) ∈ A' ∨ (n : Int) = z) with h9 | h9
        · rw [List.concat_eq_append, List.pairwise_append] at p1
          have := p1.2.2 _ h9 z (by simp)
          unfold ltI at this
          omega
        · have : (n : Int) = z := by simpa using h9
          rw [this]; exact hz
    unfold ltI
    omega
  refine ⟨p1, List.pairwise_cons.2 ⟨fun c hc => .inl (hC c hc), p2⟩, ?_⟩
  intro a ha b hb
  rcases List.mem_cons.1 hb with rfl | hb
  · exact hAk a ha
  · exact p3 a ha b hb
theorem flatN (xs : List Int) : flat N64_cells xs = xs.map (Value.int .i64) := by
  induction xs with
  | nil => rfl
  | cons x xs ih => rw [flat_cons, ih]; rfl
theorem n64_cell {w : World} {base g n cap : Nat} {xs : List Int} (h : w.ownsRow base 2 1 (.slice (some ⟨g, 0, none⟩) n cap) n (flat N64_cells xs)) (j : Nat) (hj : j < xs.length) : w.cell? ⟨g, j, none⟩ = some (.int .i64 xs[j]) ∧ w.frozen? ⟨g, j, none⟩ = false := by
  have hl := h.1
  rw [flat_length N64_len] at hl
  have h1 := h.cellAt j (by omega)
  rw [h1, flatN]
  exact ⟨by simp [hj], (own_cell h (j := j) (by omega)).2⟩
theorem own_some {w : World} {base : Nat} {e : TypeId} {size n : Nat} {v : Value} {xs : List Value} (h : w.ownsRow base e size v (n + 1) xs) : ∃ g cap, v = .slice (some ⟨g, 0, none⟩) (n + 1) cap ∧ base ≤ g := by
  rcases h.2 with ⟨-, h0⟩ | ⟨g, cap3, cur, hve, hg, -⟩
  · omega
  · exact ⟨g, cap3, hve, hg⟩
set_option maxHeartbeats 3200000 in
theorem specFallOrder_any (wd hg : Int) (s : Value) (ps : List Pc) (v1 : Value) (pl : List Pu) (w : World) (hps : PV w s ps) (hok : (Bd.mk wd hg ps).ok) (hn : ps.length ≤ 9000000) (h1 : SV Pu.cells w v1 pl) (ok1 : PusOk pl) (n1 : pl.length ≤ 9000000) :
    Calls Tryz.prog 13 #[bdv wd hg s, v1] w fun e w' => ∃ v, e = .returned (.tuple #[v, .int .i64 (rbCode ⟨wd, hg, ps⟩ pl)]) ∧ w'.ownsRow w.heap.size 2 1 v (foList ⟨wd, hg, ps⟩ pl).length (flat N64_cells (foList ⟨wd, hg, ps⟩ pl)) ∧ Below w.heap.size w w' := by
  have HB := Lib.hid (BP.new (l := ⟨wd, hg, ps⟩) (w := w) hps 27)
  have hba : Below w.heap.size w (w.alloc (.cells #[.int .i8 wd, .int .i8 hg, s] 27)) := bl_alloc (Below.refl _ _)
  obtain ⟨a, cap, rfl, -⟩ := hps
  obtain ⟨a1, cap1, rfl, h1⟩ := h1
  have H1 := Lib.hid (l02Asked_any (B := w.heap.size) w.heap.size ⟨wd, hg, ps⟩ a1 cap1 pl _ HB.out hok (show ps.length ≤ 10000000 by omega) (h1.below hba (Nat.le_refl _)) ok1 hba.size (by omega))
  have HBA := Lib.hid hba
  clear hba
  cases g1 : (vBd ⟨wd, hg, ps⟩ && vPus ⟨wd, hg, ps⟩ pl) with
  | true =>
    obtain ⟨hv, hpl, hin, hn20⟩ := ask_ok _ _ g1
    have HA : Hid (askV ⟨wd, hg, ps⟩ pl = 0) := Lib.hid (by unfold askV; rw [g1]; rfl)
    have HG := Lib.hid (good_bd ⟨wd, hg, ps⟩ hv pl hpl)
    have HN := Lib.hid (runOf_len200 ⟨wd, hg, ps⟩ pl hv)
    rw [HA.out] at H1
    have HPL := Lib.hid hpl
    have HIN := Lib.hid hin
    have HC : Hid (rbCode ⟨wd, hg, ps⟩ pl = 0) := Lib.hid (by unfold rbCode; rw [g1]; rfl)
    have HL : Hid (foList ⟨wd, hg, ps⟩ pl = ordOf (runOf ps pl)) := Lib.hid (by unfold foList; rw [if_pos g1])
    rw [HC.out, HL.out]
    obtain ⟨fs, hfs⟩ : ∃ fs, fs = runOf ps pl := ⟨_, rfl⟩
    have hn2 : fs.length ≤ 200 := by rw [hfs]; exact HN.out
    rw [← hfs]
    have HFS := Lib.hid hfs
    clear hfs HN
    clear g1 HC HL HA hpl hin
    go_enter Tryz.func13, Tryz.ntmps13
    go_wp2_with fail
    refine H1.out.mono ?_
    rintro e w1 ⟨rfl, hb1⟩
    have hb01 := bl_trans HBA.out hb1
    have HF := Lib.hid (l02Run_any (B := w.heap.size) w.heap.size ⟨wd, hg, ps⟩ a1 cap1 pl w1 (HB.out.step hb1) hv (h1.below hb01 (Nat.le_refl _)) ok1 HPL.out HIN.out hn20 hb01.size)
    have HB01 := Lib.hid hb01
    clear hb01 hb1
    go_wp2_with fail
    refine HF.out.mono ?_
    rintro e w2 ⟨v, fs', rfl, hown, hokf, -, hb2⟩
    have he : fs = fs' := by rw [HFS.out]; exact (runOf_eq _ _ _ HG.out hokf).symm
    subst he
    obtain ⟨av, capv, hve, hsl, -, -⟩ := own_at hown
    subst hve
    have HB02 := Lib.hid (bl_trans HB01.out hb2)
    clear hown hb2 hokf HFS HG HF HB01 HB H1 h1
    have HCT := Lib.hid (fun k hk => idxTo_succ fell fs k hk)
    have HLE := Lib.hid (fun k => idxTo_len fell fs k)
    obtain ⟨i0, hi0, hiz0, hiz1, hiz2⟩ := info_parts Tryz.infoInt64
    have hown0 := World.ownsRow_made (e := 2) (size := 1) w2 #[] 0 (Nat.le_refl _) (by simp [maxLen]) rfl
    have hb0 : Below w2.heap.size w2 (w2.alloc (.cells #[] 2)) := bl_alloc (Below.refl _ _)
    go_wp2
    go_loopw [8, 9] (fun v ix wr => ∃ (k : Nat) (xs : List Int), k ≤ fs.length ∧ ix = .int .i64 k ∧ isOrd fs k xs ∧ wr.ownsRow w2.heap.size 2 1 v xs.length (flat N64_cells xs) ∧ Below w2.heap.size w2 wr) (fun _ ix _ => fs.length - (intOf ix).toNat)
    case atStart => exact ⟨0, [], by omega, rfl, ⟨List.Perm.refl _, List.Pairwise.nil⟩, hown0, hb0⟩
    case round =>
      clear hown0 hb0
      obtain ⟨k, xs, hk, rfl, hord, hown, hb⟩ := hrel
      obtain ⟨av2, capv2, hve, -, -, -⟩ := own_at hown
      subst hve
      have hle : xs.length ≤ k := by rw [hord.1.length_eq]; exact HLE.out k
      have HORD := Lib.hid hord
      have HOWN := Lib.hid hown
      have hzb := hb.size
      clear hown hord
      by_cases hlt : k < fs.length
      · obtain ⟨b, off, rfl, hbl, hat⟩ := fas_get hsl hlt
        have r0 : wr.cell? ⟨b, off + k * 3, none⟩ = some (.int .i64 fs[k].t) := by rw [hb.cell (p := ⟨_, _, none⟩) hbl]; exact hat.1
        have HC := Lib.hid (HCT.out k hlt)
        have HTK := Lib.hid (tki_at fs k hlt)
        obtain ⟨ft, hft⟩ : ∃ ft, ft = fs[k].t := ⟨_, rfl⟩
        have HFE : Hid (fell fs[k] = decide (0 ≤ ft)) := Lib.hid (by rw [hft]; rfl)
        rw [← hft] at r0 HTK
        clear hft hat
        rcases dec_cases (ft < 0) with ⟨g3, k3⟩ | ⟨g3, k3⟩
        · have HC2 : Hid (idxTo fell fs (k + 1) = idxTo fell fs k) := Lib.hid (by rw [HC.out, if_neg (by rw [HFE.out, decide_eq_true_eq]; omega), List.append_nil])
          clear k3
          go_wp2
          go_roundw
          case rel => exact ⟨k + 1, xs, by omega, by go_num, ⟨by rw [HC2.out]; exact HORD.out.1, HORD.out.2⟩, HOWN.out, hb⟩
          case measure => simp [intOf]; omega
        · have HC2 : Hid (idxTo fell fs (k + 1) = idxTo fell fs k ++ [(k : Int)]) := Lib.hid (by rw [HC.out, if_pos (by rw [HFE.out, decide_eq_true_eq]; omega)])
          clear k3
          obtain ⟨n, hnn⟩ : ∃ n, n = xs.length := ⟨_, rfl⟩
          rw [← hnn] at HOWN hle ⊢
          have HNN := Lib.hid hnn
          clear hnn
          have HB2 := Lib.hid hb
          go_wp2_with (at_builtin; go_must (refine wpList_append_sl _ rfl _ _ 34 rfl w2.heap.size 2 i0 (.int .i64 0) 1 8 Tryz.underlying34 hi0 hiz0 hiz1 hiz2 rfl (by decide) _ _ _ rfl (own_below HOWN.out (bl_alloc (Below.refl _ _)) (Nat.le_refl _)) (some ⟨wr.heap.size, 0, none⟩) 1 1 [.int .i64 (k : Int)] rfl (sl_newC wr #[.int .i64 (k : Int)] 2 _ rfl) rfl (by intro u hu; rw [List.mem_singleton] at hu; subst hu; rfl) (by unfold maxLen; omega) (by omega) (by simp; omega) ?_); intro v3 w3 hown3 hgrow; obtain ⟨g, cap3, rfl, hg⟩ := own_some hown3)
          have hb3 : Below w2.heap.size w2 w3 := (bl_alloc (o := .cells #[.int .i64 (k : Int)] 2) HB2.out).grown hgrow (by simp; omega) (fun q hq => (HOWN.out.lt q hq).1)
          have hcells : flat N64_cells xs ++ [.int .i64 (k : Int)] = flat N64_cells (xs ++ [(k : Int)]) := by rw [flat_append]; rfl
          rw [hcells] at hown3
          have HOWN3 := Lib.hid hown3
          clear hown3 hgrow hcells hb r0
          go_loopw [10] (fun jx wi => ∃ A C : List Int, A ++ C = xs ∧ jx = .int .i64 A.length ∧ wi.ownsRow w2.heap.size 2 1 (.slice (some ⟨g, 0, none⟩) (n + 1) cap3) (n + 1) (flat N64_cells (A ++ (k : Int) :: C)) ∧ (∀ c ∈ C, tki fs k < tki fs c) ∧ Below w2.heap.size w2 wi) (fun jx _ => (intOf jx).toNat)
          case atStart => exact ⟨xs, [], by simp, by rw [HNN.out], HOWN3.out, by simp, hb3⟩
          case round =>
            clear hb3 HOWN3
            obtain ⟨A, C, hAC, rfl, howni, hCt, hbi⟩ := hrel
            rcases List.eq_nil_or_concat A with rfl | ⟨A', z, hAz⟩
            · have HP := Lib.hid (ord_put fs k xs [] C HORD.out hAC hCt (by simp))
              have HPm : Hid ((([] : List Int) ++ (k : Int) :: C).Perm (idxTo fell fs (k + 1))) := Lib.hid (by
                rw [HC2.out]
                refine List.Perm.trans ?_ (List.Perm.append_right _ HORD.out.1)
                rw [← hAC]
                simp only [List.nil_append]
                exact List.perm_append_comm (l₁ := [(k : Int)]))
              have hlen2 : (([] : List Int) ++ (k : Int) :: C).length = n + 1 := by rw [HNN.out, ← hAC]; simp
              have HO := Lib.hid howni
              have HLEN := Lib.hid hlen2
              clear howni hAC hCt hlen2
              have d1 : decide ((0 : Int) < ((0 : Nat) : Int)) = false := rfl
              go_wp2_with fail
              go_quiet (fail)
              go_wp2
              go_roundw
              case rel => exact ⟨k + 1, _, by omega, by go_num, ⟨HPm.out, HP.out⟩, by rw [HLEN.out]; exact own_below HO.out (by repeat (first | with_reducible exact Below.refl _ _ | with_reducible assumption | with_reducible apply bl_drewN | with_reducible apply bl_drew | with_reducible apply bl_alloc | (with_reducible refine bl_set ?_ (by first | (simp; done) | (simp; omega)) _) | with_reducible refine bl_trans ?_ (by with_reducible assumption))) (Nat.le_refl _), (by repeat (first | with_reducible exact Below.refl _ _ | with_reducible assumption | with_reducible apply bl_drewN | with_reducible apply bl_drew | with_reducible apply bl_alloc | (with_reducible refine bl_set ?_ (by first | (simp; done) | (simp; omega)) _) | with_reducible refine bl_trans ?_ (by with_reducible assumption)))⟩
              case measure => simp [intOf]; omega
            · rw [List.concat_eq_append] at hAz
              have hzm : z ∈ idxTo fell fs k := HORD.out.1.subset (by rw [← hAC, hAz]; simp)
              obtain ⟨zn, rfl, hzn⟩ := idxTo_mem fell fs k z hzm
              have hznf : zn < fs.length := by omega
              have hlenA : A.length = A'.length + 1 := by rw [hAz]; simp
              have hnA : A'.length < n := by rw [HNN.out, ← hAC]; simp; omega
              have cz := n64_cell howni A'.length (by rw [hAz]; simp)
              have ck := n64_cell howni (A'.length + 1) (by rw [hAz]; simp)
              have ez : (A ++ (k : Int) :: C)[A'.length]'(by rw [hAz]; simp) = (zn : Int) := by simp [hAz]
              have ek : (A ++ (k : Int) :: C)[A'.length + 1]'(by rw [hAz]; simp) = (k : Int) := by simp [hAz]
              rw [ez] at cz
              rw [ek] at ck
              obtain ⟨b4, off4, he4, hbl4, hat4⟩ := fas_get hsl hznf
              simp only [Option.some.injEq, Addr.mk.injEq, and_true] at he4
              obtain ⟨rfl, rfl⟩ := he4
              have rz : wr.cell? ⟨b, off + zn * 3, none⟩ = some (.int .i64 fs[zn].t) := by rw [hbi.cell (p := ⟨_, _, none⟩) hbl]; exact hat4.1
              obtain ⟨b5, off5, he5, hbl5, hat5⟩ := fas_get hsl hlt
              simp only [Option.some.injEq, Addr.mk.injEq, and_true] at he5
              obtain ⟨rfl, rfl⟩ := he5
              have rk : wr.cell? ⟨b, off + k * 3, none⟩ = some (.int .i64 fs[k].t) := by rw [hbi.cell (p := ⟨_, _, none⟩) hbl]; exact hat5.1
              rw [show fs[k].t = ft by rw [← HTK.out, tki_at fs k hlt]] at rk
              obtain ⟨zt, hzt⟩ : ∃ zt, zt = fs[zn].t := ⟨_, rfl⟩
              have HZT : Hid (tki fs (zn : Int) = zt) := Lib.hid (by rw [tki_at fs zn hznf, hzt])
              rw [← hzt] at rz
              obtain ⟨m, hm⟩ : ∃ m, m = A'.length := ⟨_, rfl⟩
              have hmA : A.length = m + 1 := by omega
              rw [hmA]
              rw [← hm] at cz ck hnA
              have HO := Lib.hid howni
              have HAZ := Lib.hid hAz
              have HAC := Lib.hid hAC
              have HM := Lib.hid hm
              have HCt := Lib.hid hCt
              obtain ⟨cz1, cz2⟩ := cz
              obtain ⟨ck1, ck2⟩ := ck
              clear howni hAz hAC hm hCt hzt hlenA hmA ez ek hat4 hat5 hzm
              have d1 : decide ((0 : Int) < ((m + 1 : Nat) : Int)) = true := decide_eq_true (by omega)
              have s1 : IntKind.i64.wrap (((m + 1 : Nat) : Int) - 1) = (m : Int) := by rw [IntKind.wrap_i64]; omega
              rcases dec_cases (ft < zt) with ⟨g4, k4⟩ | ⟨g4, k4⟩
              · clear HORD HOWN
                go_wp2_with fail
                go_quiet (fail)
                go_wp2_with fail
                have hq0 : Below w2.heap.size w2 (wr.drewN nq) := (by repeat (first | with_reducible exact Below.refl _ _ | with_reducible assumption | with_reducible apply bl_drewN | with_reducible apply bl_drew | with_reducible apply bl_alloc | (with_reducible refine bl_set ?_ (by first | (simp; done) | (simp; omega)) _) | with_reducible refine bl_trans ?_ (by with_reducible assumption)))
                have ow0 := own_below HO.out (show Below wr.heap.size wr (wr.drewN nq) from (by repeat (first | with_reducible exact Below.refl _ _ | with_reducible assumption | with_reducible apply bl_drewN | with_reducible apply bl_drew | with_reducible apply bl_alloc | (with_reducible refine bl_set ?_ (by first | (simp; done) | (simp; omega)) _) | with_reducible refine bl_trans ?_ (by with_reducible assumption)))) (Nat.le_refl _)
                have ow1 := (ow0.stored (m + 1) (.int .i64 (zn : Int))).1
                have ow2 := (ow1.stored m (.int .i64 (k : Int))).1
                have hrow : ((flat N64_cells (A ++ (k : Int) :: C)).set (m + 1) (.int .i64 (zn : Int))).set m (.int .i64 (k : Int)) = flat N64_cells (A' ++ (k : Int) :: (zn : Int) :: C) := by
                  rw [flatN, flatN, HAZ.out, HM.out]
                  simp [List.set_append]
                rw [hrow] at ow2
                refine ⟨⟨A', (zn : Int) :: C, by rw [← HAC.out, HAZ.out]; simp, by rw [HM.out], ow2, ?_, bl_set (bl_set hq0 hg _) hg _⟩, by simp [intOf]⟩
                intro c hc
                rcases List.mem_cons.1 hc with rfl | hc
                · rw [HZT.out, HTK.out]; exact k4
                · exact HCt.out c hc
              · have HLA : Hid (∀ a ∈ A.getLast?, tki fs a ≤ tki fs k) := Lib.hid (by
                  intro a ha
                  rw [HAZ.out] at ha
                  have h8 : (zn : Int) = a := by simpa using ha
                  rw [← h8, HZT.out, HTK.out]
                  exact Int.not_lt.1 k4)
                have HP := Lib.hid (ord_put fs k xs A C HORD.out HAC.out HCt.out HLA.out)
                have HPm : Hid ((A ++ (k : Int) :: C).Perm (idxTo fell fs (k + 1))) := Lib.hid (by
                  rw [HC2.out]
                  refine List.Perm.trans ?_ (List.Perm.append_right _ HORD.out.1)
                  rw [← HAC.out, List.append_assoc]
                  exact List.Perm.append_left _ (List.perm_append_comm (l₁ := [(k : Int)])))
                have HLEN : Hid ((A ++ (k : Int) :: C).length = n + 1) := Lib.hid (by rw [HNN.out, ← HAC.out]; simp; omega)
                clear HORD HOWN
                go_wp2_with fail
                go_quiet (fail)
                go_wp2
                go_roundw
                case rel => exact ⟨k + 1, _, by omega, by go_num, ⟨HPm.out, HP.out⟩, by rw [HLEN.out]; exact own_below HO.out (by repeat (first | with_reducible exact Below.refl _ _ | with_reducible assumption | with_reducible apply bl_drewN | with_reducible apply bl_drew | with_reducible apply bl_alloc | (with_reducible refine bl_set ?_ (by first | (simp; done) | (simp; omega)) _) | with_reducible refine bl_trans ?_ (by with_reducible assumption))) (Nat.le_refl _), (by repeat (first | with_reducible exact Below.refl _ _ | with_reducible assumption | with_reducible apply bl_drewN | with_reducible apply bl_drew | with_reducible apply bl_alloc | (with_reducible refine bl_set ?_ (by first | (simp; done) | (simp; omega)) _) | with_reducible refine bl_trans ?_ (by with_reducible assumption)))⟩
                case measure => simp [intOf]; omega
      · have hkn : k = fs.length := by omega
        subst hkn
        have HE := Lib.hid (ordOf_eq fs xs HORD.out)
        have HOWN2 := own_mono (base := w.heap.size) HOWN.out HB02.out.size
        go_wp2
        go_ret2
        exact ⟨_, rfl, by rw [← HE.out]; exact HOWN2, bl_trans HB02.out hb⟩
  | false =>
    have HA : Hid (askV ⟨wd, hg, ps⟩ pl = 1) := Lib.hid (by unfold askV; rw [g1]; rfl)
    have HC : Hid (rbCode ⟨wd, hg, ps⟩ pl = 1) := Lib.hid (by unfold rbCode; rw [g1]; rfl)
    have HL : Hid (foList ⟨wd, hg, ps⟩ pl = []) := Lib.hid (by unfold foList; rw [g1]; rfl)
    rw [HC.out, HL.out]
    rw [HA.out] at H1
    clear g1 HC HL HA
    go_enter Tryz.func13, Tryz.ntmps13
    go_wp2_with fail
    refine H1.out.mono ?_
    rintro e w1 ⟨rfl, hb1⟩
    have hb01 := bl_trans HBA.out hb1
    have hown := World.ownsRow_made (e := 2) (size := 1) w1 #[] 0 (Nat.le_refl _) (by simp [maxLen]) rfl
    have hown2 := own_mono (base := w.heap.size) hown hb01.size
    go_wp2
    go_ret2
    exact ⟨_, rfl, hown2, bl_alloc hb01⟩
end Go.Proofs.YtmeefmoblkiebaaGreat
/- Contracts: slices.Reverse over whole numbers. -/
namespace Go.Proofs.YtmeefmoblkiebaaGreat
open Go.RowKit
set_option linter.unusedVariables false
set_option linter.unusedSimpArgs false
set_option maxHeartbeats 400000
set_option maxRecDepth 100000
/-- A list of which the first i and the last i elements have been exchanged. -/
def revToI (xs : List Int) (i : Nat) : List Int := (xs.drop (xs.length - i)).reverse ++ ((xs.take (xs.length - i)).drop i ++ (xs.take i).reverse)
theorem revToI_zero (xs : List Int) : revToI xs 0 = xs := by simp [revToI]
theorem revToI_end (xs : List Int) (i : Nat) (h : xs.length ≤ 2 * i + 1) (hi : 2 * i ≤ xs.length) : revToI xs i = xs.reverse := by
  unfold revToI
  have e : xs = xs.take i ++ ((xs.take (xs.length - i)).drop i ++ xs.drop (xs.length - i)) := by
    have h1 : xs.take i = (xs.take (xs.length - i)).take i := by rw [List.take_take]; congr 1; omega
    rw [h1, ← List.append_assoc, List.take_append_drop, List.take_append_drop]
  have hm : ((xs.take (xs.length - i)).drop i).length ≤ 1 := by simp; omega
  have hr : ((xs.take (xs.length - i)).drop i).reverse = (xs.take (xs.length - i)).drop i := by
    generalize (xs.take (xs.length - i)).drop i = m at hm
    match m, hm with
    | [], _ => rfl
    | [x], _ => rfl
  conv => rhs; rw [e]
  simp only [List.reverse_append, hr, List.append_assoc]
theorem revToI_parts (xs : List Int) (i : Nat) (h : 2 * i + 1 < xs.length) : ∃ A M C : List Int, A.length = i ∧ M.length = xs.length - 2 * i - 2 ∧
    revToI xs i = A ++ (xs[i] :: (M ++ (xs[xs.length - 1 - i]'(by omega) :: C))) ∧ revToI xs (i + 1) = A ++ (xs[xs.length - 1 - i]'(by omega) :: (M ++ (xs[i] :: C))) := by
  have hj : xs.length - 1 - i < xs.length := by omega
  refine ⟨(xs.drop (xs.length - i)).reverse, (xs.take (xs.length - 1 - i)).drop (i + 1), (xs.take i).reverse, by simp; omega, by simp; omega, ?_, ?_⟩
  · unfold revToI
    have e1 : xs.take (xs.length - i) = xs.take (xs.length - 1 - i) ++ [xs[xs.length - 1 - i]] := by
      have := List.take_succ_eq_append_getElem hj
      rw [← this]; congr 1; omega
    have e2 : (xs.take (xs.length - 1 - i)).drop i = xs[i] :: (xs.take (xs.length - 1 - i)).drop (i + 1) := by
      rw [List.drop_eq_getElem_cons (by simp; omega)]
      simp
    rw [e1, List.drop_append_of_le_length (by simp; omega), e2]
    simp
  · unfold revToI
    have e1 : xs.drop (xs.length - (i + 1)) = xs[xs.length - 1 - i] :: xs.drop (xs.length - i) := by
      have := List.drop_eq_getElem_cons hj
      rw [show xs.length - (i + 1) = xs.length - 1 - i by omega, this]
      congr 2; omega
    have e2 : xs.take (i + 1) = xs.take i ++ [xs[i]] := List.take_succ_eq_append_getElem (by omega)
    rw [e1, e2, show xs.length - (i + 1) = xs.length - 1 - i by omega]
    simp
set_option maxHeartbeats 1600000 in
theorem reverseI_any {base g cap : Nat} (xs : List Int) (w : World) (hown : w.ownsRow base 2 1 (.slice (some ⟨g, 0, none⟩) xs.length cap) xs.length (flat N64_cells xs)) (hn : xs.length ≤ 10000000) :
    Calls Tryz.prog 63 #[.slice (some ⟨g, 0, none⟩) xs.length cap] w fun e w' => e = .returned (.tuple #[]) ∧ w'.ownsRow base 2 1 (.slice (some ⟨g, 0, none⟩) xs.length cap) xs.length (flat N64_cells xs.reverse) ∧ w.grownBy w' (some g) := by
  go_enter Tryz.func63, Tryz.ntmps63
  go_wp2
  go_loopw [2, 3] (fun i j wr => ∃ k : Nat, 2 * k ≤ xs.length ∧ i = .int .i64 k ∧ j = .int .i64 (xs.length - 1 - k) ∧ wr.ownsRow base 2 1 (.slice (some ⟨g, 0, none⟩) xs.length cap) xs.length (flat N64_cells (revToI xs k)) ∧ w.grownBy wr (some g)) (fun i _ _ => xs.length - (intOf i).toNat)
  case atStart => exact ⟨0, by omega, rfl, by go_num, by rw [revToI_zero]; exact hown, World.grownBy.refl _ _⟩
  case round =>
    clear hown
    obtain ⟨k, hk, rfl, rfl, hown, hg⟩ := hrel
    by_cases hlt : 2 * k + 1 < xs.length
    · obtain ⟨A, M, C, hA, hM, e1, e2⟩ := revToI_parts xs k hlt
      rw [e1, flat_append, flat_cons, flat_append, flat_cons] at hown
      have hAl : (flat N64_cells A).length = k * 1 := by rw [flat_length N64_len, hA]
      have hMl : (flat N64_cells M).length = (xs.length - 2 * k - 2) * 1 := by rw [flat_length N64_len, hM]
      generalize hx : xs[k] = ck at hown e2
      generalize hy : xs[xs.length - 1 - k] = cj at hown e2
      rw [Nat.mul_one] at hAl hMl
      have hAM : (flat N64_cells A).length + 1 + (flat N64_cells M).length = xs.length - 1 - k := by omega
      have i0 : wr.cell? ⟨g, k, none⟩ = some (.int .i64 ck) := by
        rw [hown.cellAt _ (by omega), List.getElem?_append_right (by omega), hAl]; simp [N64_cells]
      have j0 : wr.cell? ⟨g, xs.length - 1 - k, none⟩ = some (.int .i64 cj) := by
        rw [hown.cellAt _ (by omega), List.getElem?_append_right (by omega), hAl, List.getElem?_append_right (by simp [N64_cells]; omega), List.getElem?_append_right (by rw [hMl]; simp [N64_cells]; omega), hMl]
        rw [show xs.length - 1 - k - k - (N64_cells ck).length - (xs.length - 2 * k - 2) = 0 by simp [N64_cells]; omega]
        rfl
      have fi0 := (own_cell hown (j := k) (by omega)).2
      have fj0 := (own_cell hown (j := xs.length - 1 - k) (by omega)).2
      obtain ⟨jj, hjj⟩ : ∃ jj : Nat, jj = xs.length - 1 - k := ⟨_, rfl⟩
      have hji : (xs.length : Int) - 1 - k = (jj : Int) := by omega
      rw [hji]
      rw [← hjj] at j0 fj0 hAM
      have hlt1 : (k : Int) < (jj : Int) := by omega
      have hlt2 : (jj : Int) < xs.length := by omega
      have hlt3 : jj < xs.length := by omega
      have hlt4 : k < xs.length := by omega
      have HJ := Lib.hid hjj
      have HAM := Lib.hid hAM
      clear hjj hji hAM
      have HO := Lib.hid hown
      have HE := Lib.hid e2
      clear hown e1 e2 hx hy
      go_wp2_with fail
      go_region
      have h1 := own_setCells (N64_cells cj) HO.out hAl (by simp [N64_cells])
      rw [show (N64_cells cj).length = 1 from rfl] at h1
      have hd : (N64_cells ck ++ (flat N64_cells M ++ (N64_cells cj ++ flat N64_cells C))).drop 1 = flat N64_cells M ++ (N64_cells cj ++ flat N64_cells C) := rfl
      rw [hd, ← List.append_assoc] at h1
      have h2 := own_setCells (j := jj) (N64_cells ck) h1 (by rw [List.length_append, List.length_append, ← HAM.out]; simp [N64_cells]) (by simp [N64_cells])
      have hd2 : (N64_cells cj ++ flat N64_cells C).drop (N64_cells ck).length = flat N64_cells C := rfl
      rw [hd2] at h2
      have hg2 := grown_trans (grown_trans hg (grown_setCells g (N64_cells cj) wr k)) (grown_setCells g (N64_cells ck) (setCells wr g k (N64_cells cj)) jj)
      clear i0 j0 fi0 fj0
      have hend : (flat N64_cells A ++ N64_cells cj ++ flat N64_cells M) ++ N64_cells ck ++ flat N64_cells C = flat N64_cells (revToI xs (k + 1)) := by
        rw [HE.out, flat_append, flat_cons, flat_append, flat_cons]
        simp only [List.append_assoc]
      rw [hend] at h2
      have h3 := h2.drew
      have hg3 : w.grownBy (setCells (setCells wr g k (N64_cells cj)) g jj (N64_cells ck)).drew (some g) := ⟨hg2.os, hg2.tape, hg2.output, hg2.size, hg2.block⟩
      clear HE hg2 h1 h2 hlt3 hlt4 HO
      go_wp2
      exact ⟨⟨k + 1, by omega, by go_num, by have := HJ.out; congr 1; omega, h3, hg3⟩, by simp [intOf]; omega⟩
    · rw [revToI_end xs k (by omega) hk] at hown
      have HO := Lib.hid hown
      clear hown
      go_wp2
      go_end0
      exact ⟨rfl, HO.out, hg⟩
end Go.Proofs.YtmeefmoblkiebaaGreat
/- Falls of which each follows from the others exist: plain law; and what follows for runOf. -/
namespace Go.Proofs.YtmeefmoblkiebaaGreat
open Go.RowKit
set_option linter.unusedVariables false
set_option linter.unusedSimpArgs false
set_option maxHeartbeats 400000
set_option maxRecDepth 100000
theorem bestH_iff (xs : List Ht) (m : Ht) : bestH xs = some m ↔ m ∈ xs ∧ ∀ x ∈ xs, ltH x m = false := by
  constructor
  · intro h; exact ⟨bestH_mem xs m h, bestH_le xs m h⟩
  · rintro ⟨h1, h2⟩
    cases hb : bestH xs with
    | none => rw [bestH_none xs hb] at h1; cases h1
    | some k =>
      have h3 := bestH_le xs k hb m h1
      have h4 := h2 k (bestH_mem xs k hb)
      rw [ltH_total h4 h3]
theorem dueC_move (ps : List Pc) (pl : List Pu) (fs gs : List Fa) (hf : fs.length = ps.length) (hg : gs.length = ps.length) (hd : ∀ j, j < ps.length → 1 ≤ (ps.getD j default).d) (T : Int)
    (hs : ∀ k, k < ps.length → (fs.getD k default).t ≠ -1 → (fs.getD k default).t < T → gs.getD k default = fs.getD k default) (i : Nat) (m : Ht) (hm : m.1 ≤ T) (h : m ∈ dueC ps pl fs i) : m ∈ dueC ps pl gs i := by
  rw [cand_mem] at h ⊢
  refine ⟨h.1, h.2.imp id ?_⟩
  rintro ⟨s, hs4, h3⟩
  obtain ⟨k, hk, -, h4, h5, h6⟩ := candN1_some ps fs i s m h3 hf
  have h7 := hd k hk
  exact ⟨s, hs4, h6 gs hg (hs k hk h4 (by omega))⟩
/-- The falls ahead of a tick. -/
def stepT (ps : List Pc) (pl : List Pu) (T : Int) (fs : List Fa) : List Fa :=
  (List.range ps.length).map fun i => if (fs.getD i default).t ≠ -1 then fs.getD i default else if (due ps pl fs i).t = T then due ps pl fs i else faOf none
theorem stepT_at (ps : List Pc) (pl : List Pu) (T : Int) (fs : List Fa) (i : Nat) (hi : i < ps.length) : (stepT ps pl T fs).getD i default = if (fs.getD i default).t ≠ -1 then fs.getD i default else if (due ps pl fs i).t = T then due ps pl fs i else faOf none := by
  unfold stepT
  rw [List.getD_eq_getElem?_getD, List.getElem?_eq_getElem (by simpa using hi)]
  simp
structure PartT (ps : List Pc) (pl : List Pu) (T : Int) (fs : List Fa) : Prop where
  len : fs.length = ps.length
  fell : ∀ i, i < ps.length → (fs.getD i default).t ≠ -1 → 0 ≤ (fs.getD i default).t ∧ (fs.getD i default).t < T ∧ fs.getD i default = due ps pl fs i
  stay : ∀ i, i < ps.length → (fs.getD i default).t = -1 → fs.getD i default = faOf none ∧ ∀ m ∈ dueC ps pl fs i, T ≤ m.1
theorem partT_zero (ps : List Pc) (pl : List Pu) (hp : ∀ p ∈ pl, 0 ≤ p.t) : PartT ps pl 0 (List.replicate ps.length (faOf none)) := by
  have hat : ∀ i, i < ps.length → (List.replicate ps.length (faOf none)).getD i default = faOf none := by
    intro i hi
    rw [List.getD_eq_getElem?_getD, List.getElem?_eq_getElem (by simpa using hi)]
    simp
  refine ⟨by simp, ?_, ?_⟩
  · intro i hi h
    rw [hat i hi] at h
    exact absurd rfl h
  · intro i hi h
    refine ⟨hat i hi, ?_⟩
    intro m hm
    rw [cand_mem] at hm
    rcases hm.2 with h1 | ⟨s, hs, h1⟩
    · exact candP_tick ps pl hp i m h1
    · obtain ⟨k, hk, -, h4, -, -⟩ := candN1_some ps _ i s m h1 (by simp)
      rw [hat k hk] at h4
      exact absurd rfl h4
theorem partT_step (ps : List Pc) (pl : List Pu) (hd : ∀ j, j < ps.length → 1 ≤ (ps.getD j default).d) (T : Int) (hT : 0 ≤ T) (fs : List Fa) (h : PartT ps pl T fs) : PartT ps pl (T + 1) (stepT ps pl T fs) := by
  have hl : (stepT ps pl T fs).length = ps.length := by simp [stepT]
  have hat := stepT_at ps pl T fs
  -- both ways up to T
  have fwd : ∀ i m, m.1 ≤ T → m ∈ dueC ps pl fs i → m ∈ dueC ps pl (stepT ps pl T fs) i := by
    intro i m hm hx
    refine dueC_move ps pl fs _ h.len hl hd T ?_ i m hm hx
    intro k hk h1 _
    rw [hat k hk, if_pos h1]
  have bwd : ∀ i m, m.1 ≤ T → m ∈ dueC ps pl (stepT ps pl T fs) i → m ∈ dueC ps pl fs i := by
    intro i m hm hx
    refine dueC_move ps pl _ fs hl h.len hd T ?_ i m hm hx
    intro k hk h1 h2
    rw [hat k hk] at h1 h2 ⊢
    by_cases h3 : (fs.getD k default).t ≠ -1
    · rw [if_pos h3]
    · rw [if_neg h3] at h1 h2
      by_cases h4 : (due ps pl fs k).t = T
      · rw [if_pos h4] at h2; omega
      · rw [if_neg h4] at h1; exact absurd rfl h1
  have best : ∀ i m, m.1 ≤ T → bestH (dueC ps pl fs i) = some m → bestH (dueC ps pl (stepT ps pl T fs) i) = some m := by
    intro i m hm hb
    rw [bestH_iff] at hb ⊢
    refine ⟨fwd i m hm hb.1, ?_⟩
    intro x hx
    by_cases hxT : x.1 ≤ T
    · exact hb.2 x (bwd i x hxT hx)
    · rw [Bool.eq_false_iff, ne_eq, ltH_iff]; omega
  have dueS : ∀ i, (due ps pl fs i).t ≠ -1 → (due ps pl fs i).t ≤ T → due ps pl (stepT ps pl T fs) i = due ps pl fs i := by
    intro i h1 h2
    unfold due at h1 h2 ⊢
    cases hm : bestH (dueC ps pl fs i) with
    | none => rw [hm] at h1; exact absurd rfl h1
    | some m =>
      rw [hm] at h2
      rw [best i m h2 hm]
  refine ⟨hl, ?_, ?_⟩
  · intro i hi h1
    rw [hat i hi] at h1 ⊢
    by_cases h3 : (fs.getD i default).t ≠ -1
    · obtain ⟨f1, f2, f3⟩ := h.fell i hi h3
      rw [if_pos h3]
      refine ⟨f1, by omega, ?_⟩
      rw [dueS i (by rw [← f3]; exact h3) (by rw [← f3]; omega)]
      exact f3
    · rw [if_neg h3] at h1 ⊢
      by_cases h4 : (due ps pl fs i).t = T
      · rw [if_pos h4]
        refine ⟨by omega, by omega, ?_⟩
        exact (dueS i (by omega) (by omega)).symm
      · rw [if_neg h4] at h1; exact absurd rfl h1
  · intro i hi h1
    rw [hat i hi] at h1 ⊢
    by_cases h3 : (fs.getD i default).t ≠ -1
    · rw [if_pos h3] at h1; exact absurd h1 h3
    · obtain ⟨s1, s2⟩ := h.stay i hi (by omega)
      rw [if_neg h3] at h1 ⊢
      by_cases h4 : (due ps pl fs i).t = T
      · rw [if_pos h4] at h1; omega
      · rw [if_neg h4]
        refine ⟨rfl, ?_⟩
        intro x hx
        by_cases hxT : x.1 ≤ T
        · have h5 := bwd i x hxT hx
          have h6 := s2 x h5
          exfalso
          unfold due at h4
          cases hm : bestH (dueC ps pl fs i) with
          | none => rw [bestH_none _ hm] at h5; cases h5
          | some m =>
            rw [hm] at h4
            have h7 : m.1 ≠ T := h4
            have h8 := s2 m (bestH_mem _ m hm)
            have h9 := bestH_le _ m hm x h5
            rw [Bool.eq_false_iff, ne_eq, ltH_iff] at h9
            omega
        · omega
def atT (ps : List Pc) (pl : List Pu) : Nat → List Fa
  | 0 => List.replicate ps.length (faOf none)
  | T + 1 => stepT ps pl T (atT ps pl T)
theorem atT_part (ps : List Pc) (pl : List Pu) (hd : ∀ j, j < ps.length → 1 ≤ (ps.getD j default).d) (hp : ∀ p ∈ pl, 0 ≤ p.t) : ∀ T : Nat, PartT ps pl T (atT ps pl T)
  | 0 => partT_zero ps pl hp
  | T + 1 => by
    have := partT_step ps pl hd T (by omega) _ (atT_part ps pl hd hp T)
    simpa [atT] using this
theorem atT_keep (ps : List Pc) (pl : List Pu) (i : Nat) (hi : i < ps.length) (T : Nat) (h : ((atT ps pl T).getD i default).t ≠ -1) : ∀ n, (atT ps pl (T + n)).getD i default = (atT ps pl T).getD i default
  | 0 => rfl
  | n + 1 => by
    have ih := atT_keep ps pl i hi T h n
    show (stepT ps pl _ (atT ps pl (T + n))).getD i default = _
    rw [stepT_at _ _ _ _ i hi, if_pos (by rw [ih]; exact h), ih]
theorem atT_end1 (ps : List Pc) (pl : List Pu) (hd : ∀ j, j < ps.length → 1 ≤ (ps.getD j default).d) (hp : ∀ p ∈ pl, 0 ≤ p.t) (i : Nat) (hi : i < ps.length) : ∃ T0, ∀ T, T0 ≤ T → (atT ps pl T).getD i default = (atT ps pl T0).getD i default := by
  by_cases h : ∃ T0, ((atT ps pl T0).getD i default).t ≠ -1
  · obtain ⟨T0, h0⟩ := h
    refine ⟨T0, ?_⟩
    intro T hT
    obtain ⟨n, rfl⟩ := Nat.exists_eq_add_of_le hT
    exact atT_keep ps pl i hi T0 h0 n
  · refine ⟨0, ?_⟩
    intro T _
    have h1 : ∀ T, (atT ps pl T).getD i default = faOf none := by
      intro T
      refine ((atT_part ps pl hd hp T).stay i hi ?_).1
      by_cases h2 : ((atT ps pl T).getD i default).t = -1
      · exact h2
      · exact absurd ⟨T, h2⟩ h
    rw [h1, h1]
theorem atT_end (ps : List Pc) (pl : List Pu) (hd : ∀ j, j < ps.length → 1 ≤ (ps.getD j default).d) (hp : ∀ p ∈ pl, 0 ≤ p.t) : ∀ n, n ≤ ps.length → ∃ T0, ∀ T, T0 ≤ T → ∀ i, i < n → (atT ps pl T).getD i default = (atT ps pl T0).getD i default
  | 0, _ => ⟨0, fun _ _ i hi => absurd hi (by omega)⟩
  | n + 1, hn => by
    obtain ⟨T1, h1⟩ := atT_end ps pl hd hp n (by omega)
    obtain ⟨T2, h2⟩ := atT_end1 ps pl hd hp n (by omega)
    refine ⟨max T1 T2, ?_⟩
    intro T hT i hi
    by_cases hin : i = n
    · subst hin
      rw [h2 T (by omega), h2 (max T1 T2) (by omega)]
    · rw [h1 T (by omega) i (by omega), h1 (max T1 T2) (by omega) i (by omega)]
theorem okFa_exists (ps : List Pc) (pl : List Pu) (hd : ∀ j, j < ps.length → 1 ≤ (ps.getD j default).d) (hp : ∀ p ∈ pl, 0 ≤ p.t) : ∃ fs, okFa ps pl fs := by
  obtain ⟨T0, h0⟩ := atT_end ps pl hd hp ps.length (Nat.le_refl _)
  have P0 := atT_part ps pl hd hp T0
  refine ⟨atT ps pl T0, P0.len, ?_, ?_⟩
  · intro i hi
    by_cases h : ((atT ps pl T0).getD i default).t = -1
    · omega
    · have := P0.fell i hi h; omega
  · intro i hi
    by_cases h : ((atT ps pl T0).getD i default).t = -1
    · rw [(P0.stay i hi h).1]
      have hnil : dueC ps pl (atT ps pl T0) i = [] := by
        apply List.eq_nil_iff_forall_not_mem.2
        intro m hm
        have hP := atT_part ps pl hd hp (max T0 (m.1.toNat + 1))
        have heq : atT ps pl (max T0 (m.1.toNat + 1)) = atT ps pl T0 := by
          apply List.ext_getElem
          · rw [hP.len, P0.len]
          · intro j hj hj2
            have hjp : j < ps.length := by rw [← P0.len]; exact hj2
            have e := h0 (max T0 (m.1.toNat + 1)) (by omega) j hjp
            rw [List.getD_eq_getElem?_getD, List.getElem?_eq_getElem hj, List.getD_eq_getElem?_getD, List.getElem?_eq_getElem hj2] at e
            exact e
        rw [heq] at hP
        have := (hP.stay i hi h).2 m hm
        omega
      unfold due
      rw [hnil]
      rfl
    · exact (P0.fell i hi h).2.2
/-- The falls of a board that is given do follow. -/
theorem runOf_ok (ps : List Pc) (pl : List Pu) (G : Good ps pl) : okFa ps pl (runOf ps pl) := by
  obtain ⟨fs, h⟩ := okFa_exists ps pl G.d1 G.t0
  have := runOf_eq ps pl fs G h
  rw [← this]; exact h
end Go.Proofs.YtmeefmoblkiebaaGreat
/- Falls hang on pushes or on earlier falls: plain law. -/
namespace Go.Proofs.YtmeefmoblkiebaaGreat
open Go.RowKit
set_option linter.unusedVariables false
set_option linter.unusedSimpArgs false
set_option maxHeartbeats 400000
set_option maxRecDepth 100000
def rkF (fs : List Fa) (t : Int) : Nat := (fs.filter (fun f => decide (0 ≤ f.t) && decide (f.t < t))).length
theorem rk_lt : ∀ (fs : List Fa) (t t' : Int) (k : Nat) (hk : k < fs.length), 0 ≤ fs[k].t → fs[k].t < t → t' ≤ fs[k].t → rkF fs t' < rkF fs t := by
  have mono : ∀ (fs : List Fa) (t t' : Int), t' ≤ t → rkF fs t' ≤ rkF fs t := by
    intro fs t t' h
    unfold rkF
    induction fs with
    | nil => simp
    | cons f fs ih =>
      by_cases h1 : (decide (0 ≤ f.t) && decide (f.t < t')) = true
      · have h2 : (decide (0 ≤ f.t) && decide (f.t < t)) = true := by simp at h1 ⊢; omega
        rw [List.filter_cons_of_pos (by simpa using h1), List.filter_cons_of_pos (by simpa using h2)]
        simpa using ih
      · rw [List.filter_cons_of_neg (by simpa using h1)]
        refine Nat.le_trans ih ?_
        by_cases h2 : (decide (0 ≤ f.t) && decide (f.t < t)) = true
        · rw [List.filter_cons_of_pos (by simpa using h2)]; simp
        · rw [List.filter_cons_of_neg (by simpa using h2)]; exact Nat.le_refl _
  intro fs
  induction fs with
  | nil => intro t t' k hk; simp at hk
  | cons f fs ih =>
    intro t t' k hk h0 h1 h2
    cases k with
    | zero =>
      simp only [List.getElem_cons_zero] at h0 h1 h2
      have m := mono fs t t' (by omega)
      unfold rkF at m ⊢
      rw [List.filter_cons_of_neg (a := f) (by simp; omega), List.filter_cons_of_pos (a := f) (by simp; omega)]
      simp; omega
    | succ k =>
      have m := ih t t' k (by simpa using hk) (by simpa using h0) (by simpa using h1) (by simpa using h2)
      simp only [List.getElem_cons_succ] at h0 h1 h2
      unfold rkF at m ⊢
      by_cases h3 : (decide (0 ≤ f.t) && decide (f.t < t')) = true
      · have h4 : (decide (0 ≤ f.t) && decide (f.t < t)) = true := by simp at h3 ⊢; omega
        rw [List.filter_cons_of_pos (by simpa using h3), List.filter_cons_of_pos (by simpa using h4)]
        simpa using m
      · rw [List.filter_cons_of_neg (by simpa using h3)]
        refine Nat.lt_of_lt_of_le m ?_
        by_cases h4 : (decide (0 ≤ f.t) && decide (f.t < t)) = true
        · rw [List.filter_cons_of_pos (by simpa using h4)]; simp
        · rw [List.filter_cons_of_neg (by simpa using h4)]; exact Nat.le_refl _
theorem rk_le (fs : List Fa) (t : Int) : rkF fs t ≤ fs.length := List.length_filter_le _ _
/-- Each fall hangs on a push, or on an earlier one. -/
def linked (fs : List Fa) : Prop := ∀ (i : Nat) (hi : i < fs.length), 0 ≤ fs[i].t → fs[i].b = -1 ∨ ∃ (k : Nat) (hk : k < fs.length), fs[i].b = (k : Int) ∧ 0 ≤ fs[k].t ∧ fs[k].t < fs[i].t
theorem candN1_by (ps : List Pc) (fs : List Fa) (i : Nat) (s : Int) (m : Ht) (h : candN1 ps fs i s = some m) : 0 ≤ m.2.2 ∧ m.2.2 < fs.length ∧ (fs.getD m.2.2.toNat default).t ≠ -1 ∧ m.1 = (fs.getD m.2.2.toNat default).t + (ps.getD m.2.2.toNat default).d := by
  unfold candN1 at h
  simp only at h
  split at h
  · rename_i hc
    obtain ⟨c1, c2, c3, c4⟩ := hc
    simp only [Option.some.injEq] at h
    rw [← h]
    exact ⟨c1, c2, c3, rfl⟩
  · cases h
theorem candP_by (ps : List Pc) (pl : List Pu) (i : Nat) (m : Ht) (h : m ∈ candP ps pl i) : m.2.2 = -1 := by
  unfold candP at h
  rw [List.mem_filterMap] at h
  obtain ⟨p, hpm, h⟩ := h
  split at h
  · simp only [Option.some.injEq] at h
    rw [← h]
  · cases h
theorem okFa_linked (ps : List Pc) (pl : List Pu) (fs : List Fa) (G : Good ps pl) (h : okFa ps pl fs) : linked fs := by
  intro i hi ht
  have hip : i < ps.length := by rw [← h.1]; exact hi
  have e := h.2.2 i hip
  rw [getD_fa fs i hi] at e
  unfold due at e
  cases hm : bestH (dueC ps pl fs i) with
  | none => rw [hm] at e; rw [e] at ht; exact absurd ht (by decide)
  | some m =>
    rw [hm] at e
    have e1 : fs[i].t = m.1 := by rw [e]; rfl
    have e2 : fs[i].b = m.2.2 := by rw [e]; rfl
    have hmem := (cand_mem ps pl fs i m).1 (bestH_mem _ m hm)
    rcases hmem.2 with h1 | ⟨s, hs, h1⟩
    · exact .inl (by rw [e2]; exact candP_by ps pl i m h1)
    · obtain ⟨c1, c2, c3, c4⟩ := candN1_by ps fs i s m h1
      have hk : m.2.2.toNat < fs.length := by omega
      have h5 := h.2.1 m.2.2.toNat (by rw [← h.1]; exact hk)
      have h6 := G.d1 m.2.2.toNat (by rw [← h.1]; exact hk)
      rw [getD_fa fs _ hk] at c3 c4 h5
      exact .inr ⟨m.2.2.toNat, hk, by omega, by omega, by omega⟩
end Go.Proofs.YtmeefmoblkiebaaGreat
/- CausesOf: plain laws, and both contracts. -/
namespace Go.Proofs.YtmeefmoblkiebaaGreat
open Go.RowKit
set_option linter.unusedVariables false
set_option linter.unusedSimpArgs false
set_option maxHeartbeats 400000
set_option maxRecDepth 100000
/-- The causes of a fall, backwards. -/
def chF (fs : List Fa) : Nat → Int → List Int
  | 0, _ => []
  | n + 1, i => if 0 ≤ i then i :: chF fs n (fs.getD i.toNat default).b else []
theorem chF_neg (fs : List Fa) (n : Nat) : chF fs n (-1) = [] := by cases n <;> rfl
theorem chF_len (fs : List Fa) : ∀ (n : Nat) (i : Int), (chF fs n i).length ≤ n := by
  intro n
  induction n with
  | zero => intro i; exact Nat.le_refl _
  | succ n ih =>
    intro i
    unfold chF
    split
    · simp only [List.length_cons]; have := ih (fs.getD i.toNat default).b; omega
    · exact Nat.zero_le _
def chOf (fs : List Fa) (i : Int) : List Int := chF fs (fs.length + 1) i
theorem runOf_linked (ps : List Pc) (pl : List Pu) (G : Good ps pl) : linked (runOf ps pl) := by
  unfold runOf
  split
  · rename_i h
    exact okFa_linked ps pl _ G h.choose_spec
  · intro i hi ht
    rw [List.getElem_replicate] at ht
    exact absurd ht (by decide)
def atOk (fs : List Fa) (c : Int) : Prop := c = -1 ∨ ∃ (k : Nat) (hk : k < fs.length), c = (k : Int) ∧ 0 ≤ fs[k].t
def rkA (fs : List Fa) (c : Int) : Nat := if 0 ≤ c then rkF fs (tki fs c) + 1 else 0
theorem rkA_neg (fs : List Fa) : rkA fs (-1) = 0 := rfl
theorem at_next (fs : List Fa) (hl : linked fs) (k : Nat) (hk : k < fs.length) (ht : 0 ≤ fs[k].t) : atOk fs fs[k].b ∧ rkA fs fs[k].b < rkA fs k ∧ (fs[k].b = -1 ∨ ∃ j : Nat, fs[k].b = (j : Int)) := by
  have e1 : rkA fs (k : Int) = rkF fs fs[k].t + 1 := by unfold rkA; rw [if_pos (by omega), tki_at fs k hk]
  rcases hl k hk ht with h | ⟨j, hj, h1, h2, h3⟩
  · refine ⟨.inl h, ?_, .inl h⟩
    rw [h, e1, rkA_neg]; omega
  · refine ⟨.inr ⟨j, hj, h1, h2⟩, ?_, .inr ⟨j, h1⟩⟩
    have e2 : rkA fs fs[k].b = rkF fs fs[j].t + 1 := by rw [h1]; unfold rkA; rw [if_pos (by omega), tki_at fs j hj]
    rw [e1, e2]
    have := rk_lt fs fs[k].t fs[j].t j hj h2 h3 (Int.le_refl _)
    omega
theorem chF_step (fs : List Fa) (f : Nat) (k : Nat) (hk : k < fs.length) (hf : rkA fs k ≤ f) : ∃ f', f = f' + 1 ∧ chF fs f k = (k : Int) :: chF fs f' fs[k].b := by
  have h1 : 1 ≤ rkA fs (k : Int) := by unfold rkA; rw [if_pos (by omega)]; omega
  obtain ⟨f', rfl⟩ : ∃ f', f = f' + 1 := ⟨f - 1, by omega⟩
  refine ⟨f', rfl, ?_⟩
  show (if 0 ≤ (k : Int) then _ else _) = _
  rw [if_pos (by omega), Int.toNat_natCast, getD_fa fs k hk]
noncomputable def caCode (l : Bd) (pl : List Pu) (i : Int) : Int := if (vBd l && vPus l pl) = true then (if inB i 0 (l.ps.length - 1) = true then (if tki (runOf l.ps pl) i < 0 then 6 else 0) else 2) else 1
noncomputable def caList (l : Bd) (pl : List Pu) (i : Int) : List Int := if caCode l pl i = 0 then (chOf (runOf l.ps pl) i).reverse else []
theorem caList_len (l : Bd) (pl : List Pu) (i : Int) : (caList l pl i).length ≤ l.ps.length + 1 := by
  unfold caList
  split
  · rw [List.length_reverse]
    have h1 := chF_len (runOf l.ps pl) ((runOf l.ps pl).length + 1) i
    have h2 := runOf_len l.ps pl
    unfold chOf
    omega
  · exact Nat.zero_le _
end Go.Proofs.YtmeefmoblkiebaaGreat
/- The walk of the law FnExactValidWay. -/
namespace Go.Proofs.YtmeefmoblkiebaaGreat
open Go.RowKit
set_option linter.unusedVariables false
set_option linter.unusedSimpArgs false
set_option maxHeartbeats 400000
set_option maxRecDepth 100000
theorem ext_s {w w' : World} (h : Below w.heap.size w w') : Below w.heap.size w w' ∧ ∀ b o, b < w.heap.size → w'.cell? ⟨b, o, none⟩ = w.cell? ⟨b, o, none⟩ := ⟨h, (bcell h).1⟩
end Go.Proofs.YtmeefmoblkiebaaGreat
/- The walk of the law FnExactFreeCells. -/
namespace Go.Proofs.YtmeefmoblkiebaaGreat
open Go.RowKit
set_option linter.unusedVariables false
set_option linter.unusedSimpArgs false
set_option maxHeartbeats 400000
set_option maxRecDepth 100000

/-- A block's first cells. -/
abbrev BX3 (w : World) (b : Nat) (v0 v1 v2 : Value) : Prop := b < w.heap.size ∧ w.cell? ⟨b, 0, none⟩ = some v0 ∧ w.cell? ⟨b, 1, none⟩ = some v1 ∧ w.cell? ⟨b, 2, none⟩ = some v2
theorem BX3.step {w w' : World} {b : Nat} {v0 v1 v2 : Value} (h : BX3 w b v0 v1 v2) (hb : Below w.heap.size w w') : BX3 w' b v0 v1 v2 := by
  obtain ⟨h1, h2⟩ := h
  refine ⟨Nat.lt_of_lt_of_le h1 hb.size, ?_⟩
  simp only [hb.cell (p := ⟨b, _, none⟩) h1]
  exact h2
theorem BX3.new (w : World) (v0 v1 v2 : Value) (T : TypeId) : BX3 (w.alloc (.cells #[v0, v1, v2] T)) w.heap.size v0 v1 v2 := by
  have hh := heap_alloc_new w (.cells #[v0, v1, v2] T)
  refine ⟨by simp, ?_, ?_, ?_⟩ <;> (rw [cell_of_row _ _ _ _ _ _ hh]; rfl)

end Go.Proofs.YtmeefmoblkiebaaGreat
/- Contracts: CausesOf (both). -/
namespace Go.Proofs.YtmeefmoblkiebaaGreat
open Go.RowKit
set_option linter.unusedVariables false
set_option linter.unusedSimpArgs false
set_option maxHeartbeats 400000
set_option maxRecDepth 100000
theorem caCode_in (l : Bd) (pl : List Pu) (i : Int) (g1 : (vBd l && vPus l pl) = true) (g2 : inB i 0 (l.ps.length - 1) = true) : ∃ n : Nat, i = (n : Int) ∧ n < l.ps.length := by
  unfold inB at g2
  simp only [Bool.and_eq_true, decide_eq_true_eq] at g2
  exact ⟨i.toNat, by omega, by omega⟩
set_option maxHeartbeats 3200000 in
theorem causesOf_any (wd hg : Int) (s : Value) (ps : List Pc) (v1 : Value) (pl : List Pu) (i : Int) (w : World) (hps : PV w s ps) (hok : (Bd.mk wd hg ps).ok) (hn : ps.length ≤ 9000000) (h1 : SV Pu.cells w v1 pl) (ok1 : PusOk pl) (n1 : pl.length ≤ 9000000) :
    Calls Tryz.prog 19 #[bdv wd hg s, v1, .int .i64 i] w fun e w' => ∃ v, e = .returned (.tuple #[v, .int .i64 (caCode ⟨wd, hg, ps⟩ pl i)]) ∧ w'.ownsRow w.heap.size 2 1 v (caList ⟨wd, hg, ps⟩ pl i).length (flat N64_cells (caList ⟨wd, hg, ps⟩ pl i)) ∧ Below w.heap.size w w' := by
  have HRB := Lib.hid (fun w1 (hb : Below w.heap.size w w1) => implRunBoard_any wd hg s ps v1 pl w1 (hps.step hb) hok hn (h1.step hb) ok1 n1)
  have HB := Lib.hid (BP.new (l := ⟨wd, hg, ps⟩) (w := w) hps 27)
  obtain ⟨a, cap, rfl, -⟩ := hps
  obtain ⟨a1, cap1, rfl, -⟩ := h1
  have HBA := Lib.hid (show Below w.heap.size w (w.alloc (.cells #[.int .i8 wd, .int .i8 hg, .slice a ps.length cap] 27)) from bl_alloc (Below.refl _ _))
  cases g1 : (vBd ⟨wd, hg, ps⟩ && vPus ⟨wd, hg, ps⟩ pl) with
  | true =>
    obtain ⟨hv, hpl, hin, hn20⟩ := ask_ok _ _ g1
    have HC0 : Hid (rbCode ⟨wd, hg, ps⟩ pl = 0) := Lib.hid (by unfold rbCode; rw [g1]; rfl)
    have HL0 : Hid (rbList ⟨wd, hg, ps⟩ pl = runOf ps pl) := Lib.hid (by unfold rbList; rw [g1]; rfl)
    rw [HC0.out, HL0.out] at HRB
    have HIO := Lib.hid (fun w1 (hb : Below (w.alloc (.cells #[.int .i8 wd, .int .i8 hg, .slice a ps.length cap] 27)).heap.size (w.alloc (.cells #[.int .i8 wd, .int .i8 hg, .slice a ps.length cap] 27)) w1) => indexOk_any w.heap.size ⟨wd, hg, ps⟩ i w1 (HB.out.step hb) (show ps.length ≤ 10000000 by omega))
    cases g2 : inB i 0 ((ps.length : Int) - 1) with
    | false =>
      have HC : Hid (caCode ⟨wd, hg, ps⟩ pl i = 2) := Lib.hid (by unfold caCode; rw [g1]; show (if inB i 0 ((ps.length : Int) - 1) = true then _ else _) = _; rw [g2]; rfl)
      have HL : Hid (caList ⟨wd, hg, ps⟩ pl i = []) := Lib.hid (by unfold caList; rw [HC.out]; rfl)
      rw [HC.out, HL.out]
      have HIO2 := Lib.hid (fun w1 hb => (show inB i 0 (((⟨wd, hg, ps⟩ : Bd).ps.length : Int) - 1) = false from g2) ▸ HIO.out w1 hb)
      clear g1 HC HL g2 HC0 HL0 hpl hin HIO
      go_enter Tryz.func19, Tryz.ntmps19
      go_wp2_with fail
      refine (HRB.out _ HBA.out).mono ?_
      rintro e w2 ⟨v, rfl, hown, hb2⟩
      have hb02 := bl_trans HBA.out hb2
      have HB2 := Lib.hid hb2
      clear hown
      go_wp2_with (go_at_call 62; refine (HIO2.out _ HB2.out).mono ?_; rintro e w' ⟨rfl, rfl⟩)
      go_ret2
      exact ⟨_, rfl, World.ownsRow_nil _ _ _ _, hb02⟩
    | true =>
      obtain ⟨n, rfl, hnl⟩ := caCode_in ⟨wd, hg, ps⟩ pl i g1 g2
      have HG := Lib.hid (good_bd ⟨wd, hg, ps⟩ hv pl hpl)
      have HN := Lib.hid (runOf_len200 ⟨wd, hg, ps⟩ pl hv)
      have HLK := Lib.hid (runOf_linked ps pl HG.out)
      have HGE := Lib.hid (runOf_ge ps pl)
      have HC : Hid (caCode ⟨wd, hg, ps⟩ pl n = (if tki (runOf ps pl) n < 0 then 6 else 0)) := Lib.hid (by unfold caCode; rw [g1]; show (if inB (n : Int) 0 ((ps.length : Int) - 1) = true then _ else _) = _; rw [g2]; rfl)
      have HL : Hid (caList ⟨wd, hg, ps⟩ pl n = if tki (runOf ps pl) n < 0 then [] else (chOf (runOf ps pl) n).reverse) := Lib.hid (by
        unfold caList
        rw [HC.out]
        by_cases h : tki (runOf ps pl) n < 0
        · rw [if_pos h, if_pos h]; rfl
        · rw [if_neg h, if_neg h]; rfl)
      have HIO2 := Lib.hid (fun w1 hb => (show inB (n : Int) 0 (((⟨wd, hg, ps⟩ : Bd).ps.length : Int) - 1) = true from g2) ▸ HIO.out w1 hb)
      obtain ⟨cc, hcc⟩ : ∃ cc, cc = caCode ⟨wd, hg, ps⟩ pl n := ⟨_, rfl⟩
      obtain ⟨cl, hcl⟩ : ∃ cl, cl = caList ⟨wd, hg, ps⟩ pl n := ⟨_, rfl⟩
      rw [← hcc, ← hcl]
      rw [← hcc] at HC
      rw [← hcl] at HL
      have HRL := Lib.hid (runOf_length ps pl)
      obtain ⟨fs, hfs⟩ : ∃ fs, fs = runOf ps pl := ⟨_, rfl⟩
      have hn2 : fs.length ≤ 200 := by rw [hfs]; exact HN.out
      have hflen : fs.length = ps.length := by rw [hfs]; exact HRL.out
      rw [← hfs] at HC HL HLK HRB HGE
      clear hfs HN g1 g2 hpl hin hcc hcl HC0 HL0 HIO HRL HG
      have hnf : n < fs.length := by rw [hflen]; exact hnl
      have HFL := Lib.hid hflen
      clear hflen
      go_enter Tryz.func19, Tryz.ntmps19
      go_wp2_with fail
      refine (HRB.out _ HBA.out).mono ?_
      rintro e w2 ⟨v, rfl, hown, hb2⟩
      have HB02 := Lib.hid (bl_trans HBA.out hb2)
      have HB2 := Lib.hid hb2
      obtain ⟨av, capv, hve, hsl, -, -⟩ := own_at hown
      subst hve
      clear hown hb2 HRB HB
      obtain ⟨b, off, rfl, hbl, hat⟩ := fas_get hsl hnf
      have r0 := hat.1
      have HTK := Lib.hid (tki_at fs n hnf)
      obtain ⟨ft, hft⟩ : ∃ ft, ft = fs[n].t := ⟨_, rfl⟩
      have HFT := Lib.hid hft
      have hge : -1 ≤ ft := by rw [hft]; exact HGE.out n hnf
      rw [← hft] at r0 HTK
      have hnfI : (n : Int) < fs.length := by omega
      clear hft hat HGE
      rcases Int.decEq ft (-1) with hne | heq
      · have htc : (ft == (-1 : Int)) = false := by simpa using hne
        have k3 : ¬ ft < 0 := by omega
        have hfp : 0 ≤ ft := by omega
        have HC2 : Hid (cc = 0) := Lib.hid (by rw [HC.out, HTK.out, if_neg k3])
        have HL2 : Hid (cl = (chOf fs n).reverse) := Lib.hid (by rw [HL.out, HTK.out, if_neg k3])
        have HAT : Hid (atOk fs (n : Int)) := Lib.hid (.inr ⟨n, hnf, rfl, by rw [← HFT.out]; omega⟩)
        have HRK : Hid (rkA fs (n : Int) ≤ fs.length + 1) := Lib.hid (by unfold rkA; rw [if_pos (by omega)]; have := rk_le fs (tki fs n); omega)
        have HST := Lib.hid (fun f k hk hf => chF_step fs f k hk hf)
        have HNX := Lib.hid (fun k hk ht => at_next fs HLK.out k hk ht)
        have HNE : Hid (∃ x r, chOf fs n = x :: r) := Lib.hid (by
          obtain ⟨f', -, h⟩ := chF_step fs (fs.length + 1) n hnf HRK.out
          exact ⟨_, _, h⟩)
        clear k3 HC HL hne hge hfp
        obtain ⟨i0, hi0, hiz0, hiz1, hiz2⟩ := info_parts Tryz.infoInt64
        have hb20 : Below w2.heap.size w2 (w2.alloc (.cells #[] 2)) := bl_alloc (Below.refl _ _)
        have hown0 := World.ownsRow_made (e := 2) (size := 1) w2 #[] 0 (Nat.le_refl _) (by simp [maxLen]) rfl
        go_wp2_with (go_at_call 62; refine (HIO2.out _ HB2.out).mono ?_; rintro e w' ⟨rfl, rfl⟩)
        go_loopw [2, 10] (fun cx v wr => ∃ (c : Int) (pre : List Int) (f : Nat), cx = .int .i64 c ∧ atOk fs c ∧ rkA fs c ≤ f ∧ pre.length + f = fs.length + 1 ∧ pre ++ chF fs f c = chOf fs n ∧ wr.ownsRow w2.heap.size 2 1 v pre.length (flat N64_cells pre) ∧ Below w2.heap.size w2 wr) (fun cx _ _ => rkA fs (intOf cx))
        case atStart => exact ⟨n, [], fs.length + 1, rfl, HAT.out, HRK.out, by simp, rfl, hown0, hb20⟩
        case round =>
          clear hown0 hb20 r0
          obtain ⟨c, pre, f, rfl, hat, hrk, hpf, hch, hown, hb⟩ := hrel
          have hzb := hb.size
          rcases hat with rfl | ⟨k, hk, rfl, hkt⟩
          · have HPRE : Hid (pre = chOf fs n) := Lib.hid (by rw [← hch, chF_neg, List.append_nil])
            obtain ⟨x, r, hxr⟩ := HNE.out
            have hl1 : pre.length = r.length + 1 := by rw [HPRE.out, hxr]; rfl
            rw [hl1] at hown
            obtain ⟨gg, capg, rfl, hgg⟩ := own_some hown
            rw [← hl1] at hown ⊢
            have hln : pre.length ≤ 10000000 := by omega
            have HRV := Lib.hid (reverseI_any pre wr hown hln)
            clear hown hch hl1 hxr
            go_wp2_with fail
            refine HRV.out.mono ?_
            rintro e w5 ⟨rfl, hown5, hgr⟩
            have hb5 : Below w.heap.size w w5 := bl_grown (bl_trans HB02.out hb) hgr (fun q hq => by cases hq; have := HB02.out.size; omega)
            have hown6 := own_mono (base := w.heap.size) hown5 HB02.out.size
            go_wp2
            go_ret2
            exact ⟨_, by rw [HC2.out]; rfl, by rw [HL2.out, ← HPRE.out, List.length_reverse]; exact hown6, hb5⟩
          · obtain ⟨av2, capv2, hve, -, -, -⟩ := own_at hown
            subst hve
            obtain ⟨f', rfl, hst⟩ := HST.out f k hk hrk
            obtain ⟨hnx1, hnx2, -⟩ := HNX.out k hk hkt
            obtain ⟨b6, off6, he6, hbl6, hat6⟩ := fas_get hsl hk
            simp only [Option.some.injEq, Addr.mk.injEq, and_true] at he6
            obtain ⟨rfl, rfl⟩ := he6
            have r2 : w2.cell? ⟨b, off + k * 3 + 2, none⟩ = some (.int .i64 fs[k].b) := hat6.2.2
            have HCH : Hid ((pre ++ [(k : Int)]) ++ chF fs f' fs[k].b = chOf fs n) := Lib.hid (by rw [← hch, hst]; simp)
            obtain ⟨nb, hnb⟩ : ∃ nb, nb = fs[k].b := ⟨_, rfl⟩
            rw [← hnb] at r2 HCH hnx1 hnx2
            have hlen : pre.length ≤ 201 := by omega
            have HRK2 : Hid (rkA fs nb ≤ f') := Lib.hid (by omega)
            have HR2 := Lib.hid hnx2
            have HAT2 := Lib.hid hnx1
            have HOWN := Lib.hid hown
            obtain ⟨m, hm⟩ : ∃ m, m = pre.length := ⟨_, rfl⟩
            rw [← hm] at hlen HOWN ⊢
            have HM := Lib.hid hm
            have HPF := Lib.hid hpf
            have hkI : (k : Int) < fs.length := by omega
            have g9 : ((k : Int) != -1) = true := by simp
            clear hown hnb hch hst hrk hnx1 hnx2 hat6 hkt hm hpf
            go_wp2_with (at_builtin; go_must (refine wpList_append_sl _ rfl _ _ 34 rfl w2.heap.size 2 i0 (.int .i64 0) 1 8 Tryz.underlying34 hi0 hiz0 hiz1 hiz2 rfl (by decide) _ _ _ rfl (own_below HOWN.out (bl_alloc (Below.refl _ _)) (Nat.le_refl _)) (some ⟨wr.heap.size, 0, none⟩) 1 1 [.int .i64 (k : Int)] rfl (sl_newC wr #[.int .i64 (k : Int)] 2 _ rfl) rfl (by intro u hu; rw [List.mem_singleton] at hu; subst hu; rfl) (by unfold maxLen; omega) (by omega) (by simp; omega) ?_); intro v3 w3 hown3 hgrow; have hb3 : Below w2.heap.size w2 w3 := (bl_alloc (o := .cells #[.int .i64 (k : Int)] 2) hb).grown hgrow (by simp; omega) (fun q hq => (HOWN.out.lt q hq).1); have r3 : w3.cell? ⟨b, off + k * 3 + 2, none⟩ = some (.int .i64 nb) := by rw [hb3.cell (p := ⟨_, _, none⟩) hbl]; exact r2)
            have hcells : flat N64_cells pre ++ [.int .i64 (k : Int)] = flat N64_cells (pre ++ [(k : Int)]) := by rw [flat_append]; rfl
            have hlen9 : m + 1 = (pre ++ [(k : Int)]).length := by rw [HM.out]; simp
            have hown4 : w3.ownsRow w2.heap.size 2 1 v3 (pre ++ [(k : Int)]).length (flat N64_cells (pre ++ [(k : Int)])) := by rw [← hcells, ← hlen9]; exact hown3
            go_roundw
            case rel => exact ⟨nb, pre ++ [(k : Int)], f', rfl, HAT2.out, HRK2.out, by have := HPF.out; simp; omega, HCH.out, hown4, hb3⟩
            case measure => exact HR2.out
      · have htc : (ft == (-1 : Int)) = true := by simpa using heq
        have k3 : ft < 0 := by omega
        have HC2 : Hid (cc = 6) := Lib.hid (by rw [HC.out, HTK.out, if_pos k3])
        have HL2 : Hid (cl = []) := Lib.hid (by rw [HL.out, HTK.out, if_pos k3])
        clear k3 heq hge
        go_wp2_with (go_at_call 62; refine (HIO2.out _ HB2.out).mono ?_; rintro e w' ⟨rfl, rfl⟩)
        go_ret2
        exact ⟨_, by rw [HC2.out]; rfl, by rw [HL2.out]; exact World.ownsRow_nil _ _ _ _, HB02.out⟩
  | false =>
    have HC0 : Hid (rbCode ⟨wd, hg, ps⟩ pl = 1) := Lib.hid (by unfold rbCode; rw [g1]; rfl)
    have HC : Hid (caCode ⟨wd, hg, ps⟩ pl i = 1) := Lib.hid (by unfold caCode; rw [g1]; rfl)
    have HL : Hid (caList ⟨wd, hg, ps⟩ pl i = []) := Lib.hid (by unfold caList; rw [HC.out]; rfl)
    rw [HC.out, HL.out]
    rw [HC0.out] at HRB
    clear g1 HC HL HC0
    go_enter Tryz.func19, Tryz.ntmps19
    go_wp2_with fail
    refine (HRB.out _ HBA.out).mono ?_
    rintro e w2 ⟨v, rfl, hown, hb2⟩
    have hb02 := bl_trans HBA.out hb2
    go_wp2
    go_ret2
    exact ⟨_, rfl, World.ownsRow_nil _ _ _ _, hb02⟩
end Go.Proofs.YtmeefmoblkiebaaGreat
/- Contracts: FallenUntil, StandingAfter (both). -/
namespace Go.Proofs.YtmeefmoblkiebaaGreat
open Go.RowKit
set_option linter.unusedVariables false
set_option linter.unusedSimpArgs false
set_option maxHeartbeats 400000
set_option maxRecDepth 100000
theorem eg_fu1 (args : Array Value) (w : World) : (callFunc 65 args).run Tryz.prog w = .ok (.enter 65 args) w := by kernel_rfl
theorem fu1_any (F : Fa) (bo : Nat) (tk : Int) (w : World) (hb : bo < w.heap.size) (hc : w.cell? ⟨bo, 0, none⟩ = some (.int .i64 tk)) :
    Calls Tryz.prog 65 #[F.val, .pointer (some ⟨bo, 0, none⟩)] w fun e w' => e = .returned (.bool (inB F.t 0 tk)) ∧ Below w.heap.size w w' := by
  have hne : bo ≠ w.heap.size := by omega
  go_enter Tryz.func65, Tryz.ntmps65
  go_wp2_with (go_at_call 64; refine (in_any _ _ _ _).mono ?_; rintro e w' ⟨rfl, rfl⟩)
  go_ret
  exact ⟨rfl, (by repeat (first | with_reducible exact Below.refl _ _ | with_reducible assumption | with_reducible apply bl_drewN | with_reducible apply bl_drew | with_reducible apply bl_alloc | (with_reducible refine bl_set ?_ (by first | (simp; done) | (simp; omega)) _) | with_reducible refine bl_trans ?_ (by with_reducible assumption)))⟩
set_option maxHeartbeats 1600000 in
theorem fallenUntil_any (wd hg : Int) (s : Value) (ps : List Pc) (v1 : Value) (pl : List Pu) (tk : Int) (w : World) (hps : PV w s ps) (hok : (Bd.mk wd hg ps).ok) (hn : ps.length ≤ 9000000) (h1 : SV Pu.cells w v1 pl) (ok1 : PusOk pl) (n1 : pl.length ≤ 9000000) :
    Calls Tryz.prog 21 #[bdv wd hg s, v1, .int .i64 tk] w fun e w' => ∃ v, e = .returned (.tuple #[v, .int .i64 (fuCode ⟨wd, hg, ps⟩ pl tk)]) ∧ w'.ownsRow w.heap.size 2 1 v (fuList ⟨wd, hg, ps⟩ pl tk).length (flat N64_cells (fuList ⟨wd, hg, ps⟩ pl tk)) ∧ Below w.heap.size w w' := by
  have HVP := Lib.hid (fun w1 (hb : Below w.heap.size w w1) => validPushes_any wd hg s ps v1 pl w1 (hps.step hb) hok hn (h1.step hb) ok1 n1)
  have HRB := Lib.hid (fun w1 (hb : Below w.heap.size w w1) hva => runBoard_any wd hg s ps v1 pl w1 (hps.step hb) hok (h1.step hb) ok1 hva)
  obtain ⟨a, cap, rfl, -⟩ := hps
  obtain ⟨a1, cap1, rfl, -⟩ := h1
  obtain ⟨W, hW⟩ : ∃ W, W = (w.alloc (.cells #[.int .i8 wd, .int .i8 hg, .slice a ps.length cap] 27)).alloc (.cells #[.int .i64 tk] 2) := ⟨_, rfl⟩
  have hz1 : (w.alloc (.cells #[.int .i8 wd, .int .i8 hg, .slice a ps.length cap] 27)).heap.size = w.heap.size + 1 := by simp
  have hzW : W.heap.size = w.heap.size + 2 := by rw [hW]; simp
  have hbW : Below w.heap.size w W := by rw [hW]; exact bl_alloc (bl_alloc (Below.refl _ _))
  have hx := BX3.new w (.int .i8 wd) (.int .i8 hg) (.slice a ps.length cap) 27
  have hxW : BX3 W w.heap.size (.int .i8 wd) (.int .i8 hg) (.slice a ps.length cap) := by rw [hW]; exact hx.step (bl_alloc (Below.refl _ _))
  have htW : W.cell? ⟨w.heap.size + 1, 0, none⟩ = some (.int .i64 tk) := by rw [hW]; exact cell_new0 _ _ _ _ (by simp)
  have HXW := Lib.hid hxW
  have HTW := Lib.hid htW
  clear hx hxW htW
  cases g1 : (vBd ⟨wd, hg, ps⟩ && vPus ⟨wd, hg, ps⟩ pl) with
  | false =>
    have HC : Hid (fuCode ⟨wd, hg, ps⟩ pl tk = 1) := Lib.hid (by unfold fuCode; rw [g1]; rfl)
    have HL : Hid (fuList ⟨wd, hg, ps⟩ pl tk = []) := Lib.hid (by unfold fuList; rw [HC.out]; rfl)
    rw [HC.out, HL.out]
    rw [g1] at HVP
    clear g1 HC HL HRB
    go_enter Tryz.func21, Tryz.ntmps21
    go_wp2_with fail
    refine (HVP.out _ (by repeat (first | with_reducible exact Below.refl _ _ | with_reducible assumption | with_reducible apply bl_drewN | with_reducible apply bl_drew | with_reducible apply bl_alloc | (with_reducible refine bl_set ?_ (by first | (simp; done) | (simp; omega)) _) | with_reducible refine bl_trans ?_ (by with_reducible assumption)))).mono ?_
    rintro e w1 ⟨rfl, hb1⟩
    have hb01 : Below w.heap.size w w1 := (by repeat (first | with_reducible exact Below.refl _ _ | with_reducible assumption | with_reducible apply bl_drewN | with_reducible apply bl_drew | with_reducible apply bl_alloc | (with_reducible refine bl_set ?_ (by first | (simp; done) | (simp; omega)) _) | with_reducible refine bl_trans ?_ (by with_reducible assumption)))
    go_wp2
    go_ret2
    exact ⟨_, rfl, World.ownsRow_nil _ _ _ _, hb01⟩
  | true =>
    obtain ⟨hv, hpl, hin, hn20⟩ := ask_ok _ _ g1
    have HN := Lib.hid (runOf_len200 ⟨wd, hg, ps⟩ pl hv)
    have HRB2 := Lib.hid (fun w1 hb => HRB.out w1 hb g1)
    clear hpl hin hv HRB
    cases g2 : inB tk 0 1000000 with
    | false =>
      have HC : Hid (fuCode ⟨wd, hg, ps⟩ pl tk = 2) := Lib.hid (by unfold fuCode; rw [g1, g2]; rfl)
      have HL : Hid (fuList ⟨wd, hg, ps⟩ pl tk = []) := Lib.hid (by unfold fuList; rw [HC.out]; rfl)
      rw [HC.out, HL.out]
      rw [g1] at HVP
      have HIN := Lib.hid (fun w => g2 ▸ in_any tk 0 1000000 w)
      clear g1 HC HL HRB2 g2
      go_enter Tryz.func21, Tryz.ntmps21
      go_wp2_with fail
      generalize (w.alloc (.cells #[.int .i8 wd, .int .i8 hg, .slice a ps.length cap] 27)).alloc (.cells #[.int .i64 tk] 2) = W' at hW ⊢
      subst hW
      refine (HVP.out _ hbW).mono ?_
      rintro e w1 ⟨rfl, hb1⟩
      have hb01 := bl_trans hbW hb1
      have ct : w1.cell? ⟨w.heap.size + 1, 0, none⟩ = some (.int .i64 tk) := by rw [hb1.cell (p := ⟨_, _, none⟩) (show w.heap.size + 1 < _ by omega)]; exact HTW.out
      go_wp2_with (go_at_call 64; refine (HIN.out _).mono ?_; rintro e w' ⟨rfl, rfl⟩)
      go_ret2
      exact ⟨_, rfl, World.ownsRow_nil _ _ _ _, hb01⟩
    | true =>
      have HC : Hid (fuCode ⟨wd, hg, ps⟩ pl tk = 0) := Lib.hid (by unfold fuCode; rw [g1, g2]; rfl)
      have HL : Hid (fuList ⟨wd, hg, ps⟩ pl tk = idxP (fun f => inB f.t 0 tk) (runOf ps pl)) := Lib.hid (by unfold fuList; rw [if_pos HC.out])
      rw [HC.out, HL.out]
      rw [g1] at HVP
      have HIN := Lib.hid (fun w => g2 ▸ in_any tk 0 1000000 w)
      obtain ⟨fs, hfs⟩ : ∃ fs, fs = runOf ps pl := ⟨_, rfl⟩
      have hn2 : fs.length ≤ 200 := by rw [hfs]; exact HN.out
      rw [← hfs] at HRB2 ⊢
      clear g1 HC HL g2 hfs HN
      go_enter Tryz.func21, Tryz.ntmps21
      go_wp2_with fail
      generalize (w.alloc (.cells #[.int .i8 wd, .int .i8 hg, .slice a ps.length cap] 27)).alloc (.cells #[.int .i64 tk] 2) = W' at hW ⊢
      subst hW
      refine (HVP.out _ hbW).mono ?_
      rintro e w1 ⟨rfl, hb1⟩
      have hb01 := bl_trans hbW hb1
      have hz01 := hb1.size
      have ct : w1.cell? ⟨w.heap.size + 1, 0, none⟩ = some (.int .i64 tk) := by rw [hb1.cell (p := ⟨_, _, none⟩) (show w.heap.size + 1 < _ by omega)]; exact HTW.out
      obtain ⟨-, cb0, cb1, cb2⟩ := HXW.out.step hb1
      go_wp2_with (go_at_call 64; refine (HIN.out _).mono ?_; rintro e w' ⟨rfl, rfl⟩)
      refine (HRB2.out _ hb01).mono ?_
      rintro e w2 ⟨v, rfl, hown, hb2⟩
      have hb02 := bl_trans hb01 hb2
      have hz2 := hb2.size
      have ct2 : w2.cell? ⟨w.heap.size + 1, 0, none⟩ = some (.int .i64 tk) := by rw [hb2.cell (p := ⟨_, _, none⟩) (show w.heap.size + 1 < _ by omega)]; exact ct
      obtain ⟨av, capv, hve, hsl, -, -⟩ := own_at hown
      subst hve
      have HIX := Lib.hid (indices_anyP (B := w2.heap.size) 65 #[.pointer (some ⟨w.heap.size + 1, 0, none⟩)] (fun f => inB f.t 0 tk) av capv fs w2 hsl (Nat.le_refl _) (by omega) eg_fu1 (fun F wx hF hbx => fu1_any F (w.heap.size + 1) tk wx (by have := hbx.size; omega) (by rw [hbx.cell (p := ⟨_, _, none⟩) (show w.heap.size + 1 < _ by omega)]; exact ct2)))
      have HB02 := Lib.hid hb02
      clear hown hsl hb01 hb1 hb2 hb02 cb0 cb1 cb2 ct ct2 HRB2 HVP
      go_wp2_with fail
      refine HIX.out.mono ?_
      rintro e w3 ⟨v, rfl, hown3, hb3⟩
      have hown4 := own_mono (base := w.heap.size) hown3 HB02.out.size
      have hb03 := bl_trans HB02.out hb3
      go_wp2
      go_ret2
      exact ⟨_, rfl, hown4, hb03⟩
theorem eg_sa1 (args : Array Value) (w : World) : (callFunc 48 args).run Tryz.prog w = .ok (.enter 48 args) w := by kernel_rfl
theorem sa1_any (F : Fa) (w : World) : Calls Tryz.prog 48 #[F.val] w fun e w' => e = .returned (.bool (F.t == -1)) ∧ Below w.heap.size w w' := by
  go_enter Tryz.func48, Tryz.ntmps48
  go_wp2
  go_ret
  exact ⟨rfl, (by repeat (first | with_reducible exact Below.refl _ _ | with_reducible assumption | with_reducible apply bl_drewN | with_reducible apply bl_drew | with_reducible apply bl_alloc | (with_reducible refine bl_set ?_ (by first | (simp; done) | (simp; omega)) _) | with_reducible refine bl_trans ?_ (by with_reducible assumption)))⟩
set_option maxHeartbeats 1600000 in
theorem standingAfter_any (wd hg : Int) (s : Value) (ps : List Pc) (v1 : Value) (pl : List Pu) (w : World) (hps : PV w s ps) (hok : (Bd.mk wd hg ps).ok) (hn : ps.length ≤ 9000000) (h1 : SV Pu.cells w v1 pl) (ok1 : PusOk pl) (n1 : pl.length ≤ 9000000) :
    Calls Tryz.prog 11 #[bdv wd hg s, v1] w fun e w' => ∃ v, e = .returned (.tuple #[v, .int .i64 (rbCode ⟨wd, hg, ps⟩ pl)]) ∧ w'.ownsRow w.heap.size 2 1 v (saList ⟨wd, hg, ps⟩ pl).length (flat N64_cells (saList ⟨wd, hg, ps⟩ pl)) ∧ Below w.heap.size w w' := by
  have HRB := Lib.hid (fun w1 (hb : Below w.heap.size w w1) => implRunBoard_any wd hg s ps v1 pl w1 (hps.step hb) hok hn (h1.step hb) ok1 n1)
  obtain ⟨a, cap, rfl, -⟩ := hps
  obtain ⟨a1, cap1, rfl, -⟩ := h1
  cases g1 : (vBd ⟨wd, hg, ps⟩ && vPus ⟨wd, hg, ps⟩ pl) with
  | true =>
    obtain ⟨hv, hpl, hin, hn20⟩ := ask_ok _ _ g1
    have HC0 : Hid (rbCode ⟨wd, hg, ps⟩ pl = 0) := Lib.hid (by unfold rbCode; rw [g1]; rfl)
    have HL0 : Hid (rbList ⟨wd, hg, ps⟩ pl = runOf ps pl) := Lib.hid (by unfold rbList; rw [g1]; rfl)
    have HL : Hid (saList ⟨wd, hg, ps⟩ pl = idxP (fun f => decide (f.t < 0)) (runOf ps pl)) := Lib.hid (by unfold saList; rw [if_pos g1])
    have HN := Lib.hid (runOf_len200 ⟨wd, hg, ps⟩ pl hv)
    rw [HC0.out, HL.out]
    rw [HC0.out, HL0.out] at HRB
    have HGE := Lib.hid (runOf_ge ps pl)
    obtain ⟨fs, hfs⟩ : ∃ fs, fs = runOf ps pl := ⟨_, rfl⟩
    have hn2 : fs.length ≤ 200 := by rw [hfs]; exact HN.out
    rw [← hfs] at HRB HGE ⊢
    clear g1 HL HC0 HL0 hpl hin hv hfs HN
    go_enter Tryz.func11, Tryz.ntmps11
    go_wp2_with fail
    refine (HRB.out _ (by repeat (first | with_reducible exact Below.refl _ _ | with_reducible assumption | with_reducible apply bl_drewN | with_reducible apply bl_drew | with_reducible apply bl_alloc | (with_reducible refine bl_set ?_ (by first | (simp; done) | (simp; omega)) _) | with_reducible refine bl_trans ?_ (by with_reducible assumption)))).mono ?_
    rintro e w2 ⟨v, rfl, hown, hb2⟩
    obtain ⟨av, capv, hve, hsl, -, -⟩ := own_at hown
    subst hve
    have hb02 : Below w.heap.size w w2 := (by repeat (first | with_reducible exact Below.refl _ _ | with_reducible assumption | with_reducible apply bl_drewN | with_reducible apply bl_drew | with_reducible apply bl_alloc | (with_reducible refine bl_set ?_ (by first | (simp; done) | (simp; omega)) _) | with_reducible refine bl_trans ?_ (by with_reducible assumption)))
    have HIX := Lib.hid (indices_anyP (B := w2.heap.size) 48 #[] (fun f => decide (f.t < 0)) av capv fs w2 hsl (Nat.le_refl _) (by omega) eg_sa1 (fun F wx hF hbx => by
      refine (sa1_any F wx).mono ?_
      rintro e w' ⟨rfl, hb⟩
      refine ⟨?_, hb⟩
      obtain ⟨k, hk, rfl⟩ := List.getElem_of_mem hF
      have := HGE.out k hk
      exact ret_bool (by rw [beq_iff_eq, decide_eq_true_eq]; omega)))
    have HB02 := Lib.hid hb02
    clear hown hsl hb2 hb02 HRB HGE
    go_wp2_with fail
    refine HIX.out.mono ?_
    rintro e w3 ⟨v, rfl, hown3, hb3⟩
    have hown4 := own_mono (base := w.heap.size) hown3 HB02.out.size
    have hb03 := bl_trans HB02.out hb3
    go_wp2
    go_ret2
    exact ⟨_, rfl, hown4, hb03⟩
  | false =>
    have HC0 : Hid (rbCode ⟨wd, hg, ps⟩ pl = 1) := Lib.hid (by unfold rbCode; rw [g1]; rfl)
    have HL : Hid (saList ⟨wd, hg, ps⟩ pl = []) := Lib.hid (by unfold saList; rw [g1]; rfl)
    rw [HC0.out, HL.out]
    rw [HC0.out] at HRB
    clear g1 HC0 HL
    go_enter Tryz.func11, Tryz.ntmps11
    go_wp2_with fail
    refine (HRB.out _ (by repeat (first | with_reducible exact Below.refl _ _ | with_reducible assumption | with_reducible apply bl_drewN | with_reducible apply bl_drew | with_reducible apply bl_alloc | (with_reducible refine bl_set ?_ (by first | (simp; done) | (simp; omega)) _) | with_reducible refine bl_trans ?_ (by with_reducible assumption)))).mono ?_
    rintro e w2 ⟨v, rfl, hown, hb2⟩
    have hb02 : Below w.heap.size w w2 := (by repeat (first | with_reducible exact Below.refl _ _ | with_reducible assumption | with_reducible apply bl_drewN | with_reducible apply bl_drew | with_reducible apply bl_alloc | (with_reducible refine bl_set ?_ (by first | (simp; done) | (simp; omega)) _) | with_reducible refine bl_trans ?_ (by with_reducible assumption)))
    go_wp2
    go_ret2
    exact ⟨_, rfl, World.ownsRow_nil _ _ _ _, hb02⟩
end Go.Proofs.YtmeefmoblkiebaaGreat
/- The falls of a board are a proof: plain law. -/
namespace Go.Proofs.YtmeefmoblkiebaaGreat
open Go.RowKit
set_option linter.unusedVariables false
set_option linter.unusedSimpArgs false
set_option maxHeartbeats 400000
set_option maxRecDepth 100000
theorem candN1_side (ps : List Pc) (fs : List Fa) (i : Nat) (s : Int) (m : Ht) (h : candN1 ps fs i s = some m) : m.2.1 = s := by
  unfold candN1 at h
  simp only at h
  split at h
  · simp only [Option.some.injEq] at h
    rw [← h]
  · cases h
theorem candP_some (ps : List Pc) (pl : List Pu) (i : Nat) (m : Ht) (h : m ∈ candP ps pl i) : ∃ p ∈ pl, m = (p.t, p.s, -1) := by
  unfold candP at h
  rw [List.mem_filterMap] at h
  obtain ⟨p, hpm, h⟩ := h
  split at h
  · simp only [Option.some.injEq] at h
    exact ⟨p, hpm, h.symm⟩
  · cases h
theorem ok_fall (ps : List Pc) (pl : List Pu) (fs : List Fa) (G : Good ps pl) (hpl : pl.all plainPu = true) (h : okFa ps pl fs) : ∀ (r i : Nat) (hi : i < fs.length), rkF fs fs[i].t = r → fs[i].t ≤ 1000 + 9 * (r : Int) ∧ (0 ≤ fs[i].f ∧ fs[i].f ≤ 3) ∧ -1 ≤ fs[i].b ∧ fs[i].b < fs.length := by
  intro r
  induction r using Nat.strongRecOn with
  | _ r ih =>
    intro i hi hr
    have hip : i < ps.length := by rw [← h.1]; exact hi
    have e := h.2.2 i hip
    rw [getD_fa fs i hi] at e
    unfold due at e
    cases hm : bestH (dueC ps pl fs i) with
    | none =>
      rw [hm] at e
      rw [e]
      refine ⟨?_, ⟨?_, ?_⟩, ?_, ?_⟩ <;> simp only [faOf] <;> omega
    | some m =>
      rw [hm] at e
      have e1 : fs[i].t = m.1 := by rw [e]; rfl
      have e3 : fs[i].f = m.2.1 := by rw [e]; rfl
      have e2 : fs[i].b = m.2.2 := by rw [e]; rfl
      have hmem := (cand_mem ps pl fs i m).1 (bestH_mem _ m hm)
      rcases hmem.2 with h1 | ⟨s, hs, h1⟩
      · obtain ⟨p, hp, rfl⟩ := candP_some ps pl i m h1
        have h2 := List.all_eq_true.1 hpl p hp
        simp only [plainPu, inB, Bool.and_eq_true, decide_eq_true_eq] at h2
        simp only at e1 e2 e3
        refine ⟨by omega, ⟨by omega, by omega⟩, by omega, by omega⟩
      · obtain ⟨c1, c2, c3, c4⟩ := candN1_by ps fs i s m h1
        have c5 := candN1_side ps fs i s m h1
        have hk : m.2.2.toNat < fs.length := by omega
        have hkp : m.2.2.toNat < ps.length := by rw [← h.1]; exact hk
        have h5 := h.2.1 m.2.2.toNat hkp
        have h6 := G.d1 m.2.2.toNat hkp
        have h7 := G.d9 m.2.2.toNat hkp
        rw [getD_fa fs _ hk] at c3 c4 h5
        have h8 := rk_lt fs fs[i].t fs[m.2.2.toNat].t m.2.2.toNat hk (by omega) (by omega) (Int.le_refl _)
        have h9 := ih _ (by omega) m.2.2.toNat hk rfl
        refine ⟨by omega, ⟨by omega, by omega⟩, by omega, by omega⟩
structure Prf (l : Bd) (pl : List Pu) (fs : List Fa) : Prop where
  ok : okFa l.ps pl fs
  len : fs.length = l.ps.length
  n200 : l.ps.length ≤ 200
  tick : ∀ (i : Nat) (hi : i < fs.length), (-1 ≤ fs[i].t ∧ fs[i].t ≤ 2800) ∧ (0 ≤ fs[i].f ∧ fs[i].f ≤ 3) ∧ -1 ≤ fs[i].b ∧ fs[i].b < 200
theorem prf_of (l : Bd) (pl : List Pu) (h : (vBd l && vPus l pl) = true) : Prf l pl (runOf l.ps pl) := by
  obtain ⟨hv, hpl, -, -⟩ := ask_ok l pl h
  have G := good_bd l hv pl hpl
  have hok := runOf_ok l.ps pl G
  obtain ⟨-, -, -, -, hn⟩ := vBd_bounds l hv
  refine ⟨hok, hok.1, hn, fun i hi => ?_⟩
  obtain ⟨h1, h2, h3, h4⟩ := ok_fall l.ps pl _ G hpl hok _ i hi rfl
  have h5 := rk_le (runOf l.ps pl) (runOf l.ps pl)[i].t
  have h6 := hok.1
  have h7 := hok.2.1 i (by omega)
  rw [getD_fa _ i hi] at h7
  exact ⟨⟨h7, by omega⟩, h2, h3, by omega⟩
def smallFa (f : Fa) : Prop := (-1 ≤ f.t ∧ f.t ≤ 2810) ∧ (0 ≤ f.f ∧ f.f ≤ 3) ∧ -1 ≤ f.b ∧ f.b < 200
theorem Prf.small {l : Bd} {pl : List Pu} {fs : List Fa} (h : Prf l pl fs) : ∀ f ∈ fs, smallFa f := by
  intro f hf
  obtain ⟨i, hi, rfl⟩ := List.getElem_of_mem hf
  have := h.tick i hi
  exact ⟨⟨this.1.1, by omega⟩, this.2.1, this.2.2⟩
theorem small_v {ws : List Fa} (h : ∀ f ∈ ws, smallFa f) : vFas ws = true ∧ FasOk ws := by
  refine ⟨?_, fun k hk => ?_⟩
  · unfold vFas
    rw [List.all_eq_true]
    intro f hf
    obtain ⟨⟨h1, h2⟩, ⟨h3, h4⟩, h5, h6⟩ := h f hf
    simp only [inB, Bool.and_eq_true, decide_eq_true_eq]
    omega
  · obtain ⟨⟨h1, h2⟩, ⟨h3, h4⟩, h5, h6⟩ := h _ (List.getElem_mem hk)
    exact ⟨⟨by omega, by omega⟩, ⟨by omega, by omega⟩, ⟨by omega, by omega⟩⟩
theorem wrong_none (ps : List Pc) (pl : List Pu) (fs : List Fa) (h : okFa ps pl fs) (i : Nat) (hi : i < ps.length) : wrongAt ps pl fs i = false := by
  have hif : i < fs.length := by rw [h.1]; exact hi
  rw [wrong_in ps pl fs i hif, decide_eq_false_iff_not, Decidable.not_not, ← getD_fa fs i hif]
  exact h.2.2 i hi
theorem Prf.fine {l : Bd} {pl : List Pu} {fs : List Fa} (h : Prf l pl fs) : firstWrong l.ps pl fs = -1 := by
  rw [firstWrong_none l.ps pl fs (fun i hi => wrong_none _ _ _ h.ok i hi), if_neg (by have := h.len; omega)]
theorem fw_neg (ps : List Pc) (pl : List Pu) (ws : List Fa) (hl : ws.length = ps.length) (h : firstWrong ps pl ws < 0) (i : Nat) (hi : i < ps.length) : ws.getD i default = due ps pl ws i := by
  unfold firstWrong at h
  cases hf : (List.range ps.length).find? (wrongAt ps pl ws) with
  | some j => rw [hf] at h; simp only at h; omega
  | none =>
    rw [List.find?_eq_none] at hf
    have := hf i (List.mem_range.2 hi)
    rw [wrong_in ps pl ws i (by omega)] at this
    simp only [decide_eq_true_eq, Decidable.not_not] at this
    rw [getD_fa ws i (by omega)]
    exact this
theorem Prf.told {l : Bd} {pl : List Pu} {fs : List Fa} (h : Prf l pl fs) (hg : (vBd l && vPus l pl) = true) (ws : List Fa) (hl : ws.length = l.ps.length) (hs : ∀ f ∈ ws, smallFa f) : firstWrong l.ps pl ws < 0 ↔ ws = fs := by
  constructor
  · intro hf
    obtain ⟨hv, hpl, -, -⟩ := ask_ok l pl hg
    have G := good_bd l hv pl hpl
    refine due_unique l.ps pl ws fs G.d1 G.t0 ⟨hl, ?_, fun i hi => fw_neg l.ps pl ws hl hf i hi⟩ h.ok
    intro i hi
    rw [getD_fa ws i (by omega)]
    exact (hs _ (List.getElem_mem _)).1.1
  · rintro rfl
    rw [h.fine]
    decide
theorem fw_le (ps : List Pc) (pl : List Pu) (ws : List Fa) (k : Nat) (hk : k < ps.length) (hw : wrongAt ps pl ws k = true) : 0 ≤ firstWrong ps pl ws ∧ firstWrong ps pl ws ≤ k := by
  unfold firstWrong
  cases hf : (List.range ps.length).find? (wrongAt ps pl ws) with
  | none =>
    rw [List.find?_eq_none] at hf
    exact absurd hw (hf k (List.mem_range.2 hk))
  | some j =>
    rw [List.find?_eq_some_iff_getElem] at hf
    obtain ⟨-, i, hi, hij, hlt⟩ := hf
    rw [List.getElem_range] at hij
    refine ⟨by show (0 : Int) ≤ j; omega, ?_⟩
    show (j : Int) ≤ k
    by_cases hjk : k < i
    · have := hlt k hjk
      rw [List.getElem_range, hw] at this
      cases this
    · omega
theorem Prf.short {l : Bd} {pl : List Pu} {fs : List Fa} (h : Prf l pl fs) (k : Nat) (hk : k < fs.length) : 0 ≤ firstWrong l.ps pl (fs.take k) ∧ firstWrong l.ps pl (fs.take k) ≤ k := by
  have := h.len
  refine fw_le l.ps pl _ k (by omega) ?_
  unfold wrongAt
  rw [decide_eq_true (by rw [List.length_take]; omega), Bool.true_or]
theorem Prf.long {l : Bd} {pl : List Pu} {fs : List Fa} (h : Prf l pl fs) : firstWrong l.ps pl (fs ++ [stF]) = (fs.length : Int) := by
  have hl := h.len
  have e : fs ++ [stF] = padF fs 1 := by rw [padF_succ, padF_zero]
  rw [e, firstWrong_none, if_pos (by rw [padF_len]; omega), hl]
  intro i hi
  have hif : i < fs.length := by omega
  rw [wrong_in l.ps pl (padF fs 1) i (by rw [padF_len]; omega), due_pad, decide_eq_false_iff_not, Decidable.not_not]
  have h1 : (padF fs 1)[i]'(by rw [padF_len]; omega) = fs[i] := by
    unfold padF
    rw [List.getElem_append_left hif]
  rw [h1, ← getD_fa fs i hif]
  exact h.ok.2.2 i hi
end Go.Proofs.YtmeefmoblkiebaaGreat
/- What falls is told by the pushes: plain law of FnRuns. -/
namespace Go.Proofs.YtmeefmoblkiebaaGreat
open Go.RowKit
set_option linter.unusedVariables false
set_option linter.unusedSimpArgs false
set_option maxHeartbeats 400000
set_option maxRecDepth 100000
theorem idxTo_nodupR (p : Fa → Bool) (fs : List Fa) (k : Nat) : (idxTo p fs k).Nodup := by
  unfold idxTo
  rw [List.Nodup, List.pairwise_map]
  refine (List.Pairwise.filter _ List.nodup_range).imp ?_
  intro a b hab h
  exact hab (by omega)
theorem idxP_iff (p : Fa → Bool) (fs : List Fa) (n : Nat) (hn : n < fs.length) : decide ((n : Int) ∈ idxP p fs) = p fs[n] := by
  rw [Bool.eq_iff_iff, decide_eq_true_eq]
  unfold idxP idxTo
  rw [List.mem_map]
  constructor
  · rintro ⟨m, hm, he⟩
    have e : m = n := by omega
    subst e
    have := (List.mem_filter.1 hm).2
    rw [getD_fa fs m hn] at this
    exact this
  · intro h
    refine ⟨n, List.mem_filter.2 ⟨List.mem_range.2 hn, ?_⟩, rfl⟩
    rw [getD_fa fs n hn]
    exact h
theorem isOrd_exists (fs : List Fa) (k : Nat) : ∃ xs, isOrd fs k xs := by
  let le : Int → Int → Bool := fun a b => decide (tki fs a < tki fs b ∨ (tki fs a = tki fs b ∧ a ≤ b))
  have hp := List.mergeSort_perm (idxTo fell fs k) le
  refine ⟨(idxTo fell fs k).mergeSort le, hp, ?_⟩
  have h1 : ((idxTo fell fs k).mergeSort le).Pairwise (fun a b => le a b = true) := by
    refine List.pairwise_mergeSort ?_ ?_ _
    · intro a b c h h'
      simp only [le, decide_eq_true_eq] at *
      omega
    · intro a b
      simp only [le, Bool.or_eq_true, decide_eq_true_eq]
      omega
  have h2 : ((idxTo fell fs k).mergeSort le).Nodup := hp.nodup_iff.2 (idxTo_nodupR fell fs k)
  refine (h1.and h2).imp ?_
  rintro a b ⟨h3, h4⟩
  simp only [le, decide_eq_true_eq] at h3
  unfold ltI
  have h5 : a ≠ b := h4
  omega
theorem ordOf_ok (fs : List Fa) : isOrd fs fs.length (ordOf fs) := by
  obtain ⟨xs, h⟩ := isOrd_exists fs fs.length
  rw [← ordOf_eq fs xs h]
  exact h
theorem ordOf_iff (fs : List Fa) (n : Nat) (hn : n < fs.length) : decide ((n : Int) ∈ ordOf fs) = decide (0 ≤ fs[n].t) := by
  have h := (ordOf_ok fs).1.mem_iff (a := (n : Int))
  rw [Bool.eq_iff_iff, decide_eq_true_eq, h, ← decide_eq_true_eq (p := (n : Int) ∈ idxTo fell fs fs.length)]
  have := idxP_iff fell fs n hn
  unfold idxP at this
  rw [this]
  rfl
theorem ord_lengths (fs : List Fa) : (idxP (fun f => decide (f.t < 0)) fs).length + (ordOf fs).length = fs.length := by
  rw [(ordOf_ok fs).1.length_eq]
  unfold idxP idxTo
  rw [List.length_map, List.length_map]
  have e : ∀ L : List Nat, (L.filter (fun i => decide ((fs.getD i default).t < 0))).length + (L.filter (fun i => fell (fs.getD i default))).length = L.length := by
    intro L
    induction L with
    | nil => rfl
    | cons x L ih =>
      by_cases h : (fs.getD x default).t < 0
      · rw [List.filter_cons_of_pos (by simpa using h), List.filter_cons_of_neg (by show ¬ decide (0 ≤ (fs.getD x default).t) = true; rw [decide_eq_true_eq]; omega)]
        simp only [List.length_cons]; omega
      · rw [List.filter_cons_of_neg (by simpa using h), List.filter_cons_of_pos (by show decide (0 ≤ (fs.getD x default).t) = true; rw [decide_eq_true_eq]; omega)]
        simp only [List.length_cons]; omega
  rw [e, List.length_range]
theorem foldl_ge (fs : List Fa) : ∀ (L : List Fa) (m : Int), m ≤ L.foldl (fun m f => max m f.t) m ∧ (∀ f ∈ L, f.t ≤ L.foldl (fun m f => max m f.t) m) ∧ (L.foldl (fun m f => max m f.t) m = m ∨ ∃ f ∈ L, L.foldl (fun m f => max m f.t) m = f.t) := by
  intro L
  induction L with
  | nil => intro m; exact ⟨Int.le_refl _, by simp, .inl rfl⟩
  | cons x L ih =>
    intro m
    obtain ⟨h1, h2, h3⟩ := ih (max m x.t)
    simp only [List.foldl_cons]
    refine ⟨by omega, ?_, ?_⟩
    · intro f hf
      rcases List.mem_cons.1 hf with rfl | hf
      · omega
      · exact h2 f hf
    · rcases h3 with h3 | ⟨f, hf, h3⟩
      · rcases Int.le_total m x.t with h | h
        · exact .inr ⟨x, by simp, by omega⟩
        · exact .inl (by omega)
      · exact .inr ⟨f, by simp [hf], h3⟩
theorem lastF_max (fs : List Fa) : (∀ f ∈ fs, f.t ≤ lastF fs) ∧ (lastF fs = -1 ∨ ∃ f ∈ fs, lastF fs = f.t) := by
  unfold lastF lastTo
  rw [List.take_of_length_le (Nat.le_refl _)]
  obtain ⟨-, h2, h3⟩ := foldl_ge fs fs (-1)
  exact ⟨h2, h3⟩
theorem ord_none (fs : List Fa) (h1 : ∀ f ∈ fs, -1 ≤ f.t) (h : (ordOf fs).length = 0) : lastF fs < 0 := by
  obtain ⟨-, h3⟩ := lastF_max fs
  rcases h3 with h3 | ⟨f, hf, h3⟩
  · omega
  · obtain ⟨n, hn, rfl⟩ := List.getElem_of_mem hf
    have := ordOf_iff fs n hn
    rw [List.eq_nil_of_length_eq_zero h] at this
    simp at this
    omega
theorem ord_last (fs : List Fa) (h : 0 < (ordOf fs).length) : ∃ (n : Nat) (hn : n < fs.length), (ordOf fs)[(ordOf fs).length - 1]'(by omega) = (n : Int) ∧ lastF fs = fs[n].t ∧ 0 ≤ fs[n].t := by
  have ho := ordOf_ok fs
  obtain ⟨z, hz⟩ : ∃ z, z = (ordOf fs)[(ordOf fs).length - 1]'(by omega) := ⟨_, rfl⟩
  have hmem : z ∈ ordOf fs := by rw [hz]; exact List.getElem_mem _
  obtain ⟨n, rfl, hn⟩ := idxTo_mem fell fs _ z (ho.1.subset hmem)
  have ht : 0 ≤ fs[n].t := by
    have := ordOf_iff fs n hn
    rw [decide_eq_true hmem] at this
    simpa using this.symm
  refine ⟨n, hn, hz.symm, ?_, ht⟩
  obtain ⟨h2, h3⟩ := lastF_max fs
  have hle := h2 _ (List.getElem_mem hn)
  rcases h3 with h3 | ⟨f, hf, h3⟩
  · omega
  · obtain ⟨m, hm, rfl⟩ := List.getElem_of_mem hf
    have hmm : (m : Int) ∈ ordOf fs := by
      have := ordOf_iff fs m hm
      rw [decide_eq_true (by omega : 0 ≤ fs[m].t)] at this
      simpa using this
    obtain ⟨j, hj, hje⟩ := List.getElem_of_mem hmm
    have hp := List.pairwise_iff_getElem.1 ho.2
    by_cases hjl : j = (ordOf fs).length - 1
    · subst hjl
      have e : (m : Int) = (n : Int) := by rw [← hje, hz]
      have e2 : m = n := by omega
      subst e2
      exact h3
    · have := hp j ((ordOf fs).length - 1) hj (by omega) (by omega)
      rw [hje, ← hz] at this
      unfold ltI at this
      rw [tki_at fs m hm, tki_at fs n hn] at this
      omega
theorem quiet_sameR {P : Program} {f : FuncId} {args : Array Value} {w : World} {n : Nat} {v : Value} (h : Calls P f args (w.drewN n) fun e w' => e = .returned v ∧ w.drewN n = w') : Calls P f args (w.drewN n) fun e w'' => e = .returned v ∧ ∃ m, w'' = w.drewN m :=
  h.mono fun _ _ ⟨he, hm⟩ => ⟨he, n, hm.symm⟩
/-- A chain of causes: from the fall to the push. -/
def linkD (ps : List Pc) (fs : List Fa) : Prop := ∀ (i : Nat) (hi : i < fs.length), 0 ≤ fs[i].t → fs[i].b = -1 ∨ ∃ (k : Nat) (hk : k < fs.length), fs[i].b = (k : Int) ∧ 0 ≤ fs[k].t ∧ fs[k].t < fs[i].t ∧ fs[i].t = fs[k].t + (ps.getD k default).d
theorem okFa_linkD (ps : List Pc) (pl : List Pu) (fs : List Fa) (G : Good ps pl) (h : okFa ps pl fs) : linkD ps fs := by
  intro i hi ht
  have hip : i < ps.length := by rw [← h.1]; exact hi
  have e := h.2.2 i hip
  rw [getD_fa fs i hi] at e
  unfold due at e
  cases hm : bestH (dueC ps pl fs i) with
  | none => rw [hm] at e; rw [e] at ht; exact absurd ht (by decide)
  | some m =>
    rw [hm] at e
    have e1 : fs[i].t = m.1 := by rw [e]; rfl
    have e2 : fs[i].b = m.2.2 := by rw [e]; rfl
    have hmem := (cand_mem ps pl fs i m).1 (bestH_mem _ m hm)
    rcases hmem.2 with h1 | ⟨s, hs, h1⟩
    · exact .inl (by rw [e2]; exact candP_by ps pl i m h1)
    · obtain ⟨c1, c2, c3, c4⟩ := candN1_by ps fs i s m h1
      have hk : m.2.2.toNat < fs.length := by omega
      have h5 := h.2.1 m.2.2.toNat (by rw [← h.1]; exact hk)
      have h6 := G.d1 m.2.2.toNat (by rw [← h.1]; exact hk)
      rw [getD_fa fs _ hk] at c3 c4 h5
      exact .inr ⟨m.2.2.toNat, hk, by omega, by omega, by omega, by omega⟩
/-- What holds of the causes, in the order from the fall to the push. -/
structure ChOk (ps : List Pc) (fs : List Fa) (L : List Int) : Prop where
  ran : ∀ (j : Nat) (hj : j < L.length), ∃ (n : Nat) (hn : n < fs.length), L[j] = (n : Int) ∧ 0 ≤ fs[n].t
  nxt : ∀ (j : Nat) (hj : j + 1 < L.length), ∃ (n m : Nat) (hn : n < fs.length) (hm : m < fs.length), L[j] = (n : Int) ∧ L[j + 1] = (m : Int) ∧ fs[n].b = (m : Int) ∧ fs[n].t = fs[m].t + (ps.getD m default).d
  lst : ∀ (j : Nat) (hj : j + 1 = L.length), ∃ (n : Nat) (hn : n < fs.length), L[j] = (n : Int) ∧ fs[n].b = -1
theorem ch_ok (ps : List Pc) (fs : List Fa) (hl : linkD ps fs) : ∀ (f i : Nat) (hi : i < fs.length), 0 ≤ fs[i].t → rkA fs i ≤ f → ∃ T, chF fs f i = (i : Int) :: T ∧ ChOk ps fs ((i : Int) :: T) := by
  have hl0 : linked fs := by
    intro i hi ht
    rcases hl i hi ht with h | ⟨k, hk, h1, h2, h3, h4⟩
    · exact .inl h
    · exact .inr ⟨k, hk, h1, h2, h3⟩
  intro f
  induction f with
  | zero =>
    intro i hi ht hf
    obtain ⟨f', hf', -⟩ := chF_step fs 0 i hi hf
    omega
  | succ f ih =>
    intro i hi ht hf
    obtain ⟨f', hf', he⟩ := chF_step fs (f + 1) i hi hf
    obtain rfl : f' = f := by omega
    rw [he]
    obtain ⟨-, hr, -⟩ := at_next fs hl0 i hi ht
    rcases hl i hi ht with hb | ⟨k, hk, hb, h2, h3, h4⟩
    · refine ⟨[], by rw [hb, chF_neg], ⟨?_, ?_, ?_⟩⟩
      · intro j hj
        have : j = 0 := by simp at hj; omega
        subst this
        exact ⟨i, hi, rfl, ht⟩
      · intro j hj
        simp at hj
      · intro j hj
        have : j = 0 := by simp at hj; omega
        subst this
        exact ⟨i, hi, rfl, hb⟩
    · rw [hb] at hr ⊢
      obtain ⟨T, hT, hC⟩ := ih k hk h2 (by omega)
      refine ⟨(k : Int) :: T, by rw [hT], ⟨?_, ?_, ?_⟩⟩
      · intro j hj
        cases j with
        | zero => exact ⟨i, hi, rfl, ht⟩
        | succ j => exact hC.ran j (by simpa using hj)
      · intro j hj
        cases j with
        | zero => exact ⟨i, k, hi, hk, rfl, rfl, hb, h4⟩
        | succ j => exact hC.nxt j (by simpa using hj)
      · intro j hj
        cases j with
        | zero => simp at hj
        | succ j => exact hC.lst j (by simpa using hj)
theorem rkA_le (fs : List Fa) (i : Int) : rkA fs i ≤ fs.length + 1 := by
  unfold rkA
  split
  · have := rk_le fs (tki fs i); omega
  · omega
/-- The causes as they are told: from the push to the fall. -/
structure CaOk (ps : List Pc) (fs : List Fa) (i : Nat) (R : List Int) : Prop where
  pos : 0 < R.length
  lst : ∀ (h : R.length - 1 < R.length), R[R.length - 1] = (i : Int)
  ran : ∀ (j : Nat) (hj : j < R.length), ∃ (n : Nat) (hn : n < fs.length), R[j] = (n : Int) ∧ 0 ≤ fs[n].t
  fst : ∀ (h : 0 < R.length), ∃ (n : Nat) (hn : n < fs.length), R[0] = (n : Int) ∧ fs[n].b = -1
  nxt : ∀ (j : Nat) (hj : j + 1 < R.length), ∃ (n m : Nat) (hn : n < fs.length) (hm : m < fs.length), R[j + 1] = (n : Int) ∧ R[j] = (m : Int) ∧ fs[n].b = (m : Int) ∧ fs[n].t = fs[m].t + (ps.getD m default).d
theorem ca_ok (ps : List Pc) (fs : List Fa) (hl : linkD ps fs) (i : Nat) (hi : i < fs.length) (ht : 0 ≤ fs[i].t) : CaOk ps fs i (chOf fs i).reverse := by
  obtain ⟨T, hT, hC⟩ := ch_ok ps fs hl (fs.length + 1) i hi ht (rkA_le fs i)
  have e : chOf fs i = (i : Int) :: T := hT
  rw [e]
  obtain ⟨L, hL⟩ : ∃ L, L = (i : Int) :: T := ⟨_, rfl⟩
  have h0 : 0 < L.length := by rw [hL]; simp
  have hi0 : L[0] = (i : Int) := by subst hL; rfl
  rw [← hL] at hC ⊢
  have hrl : L.reverse.length = L.length := List.length_reverse
  refine ⟨by omega, ?_, ?_, ?_, ?_⟩
  · intro h
    rw [List.getElem_reverse]
    have : L.length - 1 - (L.reverse.length - 1) = 0 := by omega
    simp only [this]
    exact hi0
  · intro j hj
    rw [List.getElem_reverse]
    exact hC.ran _ _
  · intro h
    rw [List.getElem_reverse]
    exact hC.lst (L.length - 1 - 0) (by omega)
  · intro j hj
    have e4 : L.reverse[j + 1] = L[L.length - 1 - (j + 1)]'(by omega) := List.getElem_reverse _
    have e5 : L.reverse[j]'(by omega) = L[L.length - 1 - j]'(by omega) := List.getElem_reverse _
    obtain ⟨n, m, hn, hm, h1, h2, h3, h4⟩ := hC.nxt (L.length - 1 - (j + 1)) (by omega)
    have e3 : L.length - 1 - (j + 1) + 1 = L.length - 1 - j := by omega
    simp only [e3] at h2
    exact ⟨n, m, hn, hm, e4.trans h1, e5.trans h2, h3, h4⟩
end Go.Proofs.YtmeefmoblkiebaaGreat
/- Bits of whole numbers: and, or, xor, shifts. -/
namespace Go.Proofs.YtmeefmoblkiebaaGreat
open Go.RowKit
set_option linter.unusedVariables false
set_option linter.unusedSimpArgs false
theorem wrap_u64 (n : Int) (h0 : 0 ≤ n) (h1 : n < 18446744073709551616) : IntKind.u64.wrap n = n := by
  simp [IntKind.wrap, IntKind.bits, IntKind.signed]; omega
theorem wrap_i64' (n : Int) (h0 : -9223372036854775808 ≤ n) (h1 : n ≤ 9223372036854775807) : IntKind.i64.wrap n = n := by
  rw [IntKind.wrap_i64]; omega
theorem bits_u64 (a b : Nat) (ha : a < 18446744073709551616) (hb : b < 18446744073709551616) :
    bits .and .u64 (a : Int) (b : Int) = ((a &&& b : Nat) : Int) ∧ bits .or .u64 (a : Int) (b : Int) = ((a ||| b : Nat) : Int) ∧ bits .xor .u64 (a : Int) (b : Int) = ((a ^^^ b : Nat) : Int) := by
  have e : (18446744073709551616 : Nat) = 2 ^ 64 := by decide
  have h1 : (a &&& b) < 2 ^ 64 := Nat.and_lt_two_pow a (by rw [← e]; exact hb)
  have h2 : (a ||| b) < 2 ^ 64 := Nat.or_lt_two_pow (by rw [← e]; exact ha) (by rw [← e]; exact hb)
  have h3 : (a ^^^ b) < 2 ^ 64 := Nat.xor_lt_two_pow (by rw [← e]; exact ha) (by rw [← e]; exact hb)
  rw [e] at ha hb
  refine ⟨?_, ?_, ?_⟩
  · show IntKind.u64.wrap ((BitVec.ofInt 64 (a : Int) &&& BitVec.ofInt 64 (b : Int)).toNat : Int) = _
    rw [BitVec.ofInt_natCast, BitVec.ofInt_natCast, BitVec.toNat_and, BitVec.toNat_ofNat, BitVec.toNat_ofNat, Nat.mod_eq_of_lt ha, Nat.mod_eq_of_lt hb]
    exact wrap_u64 _ (by omega) (by rw [← e] at h1; omega)
  · show IntKind.u64.wrap ((BitVec.ofInt 64 (a : Int) ||| BitVec.ofInt 64 (b : Int)).toNat : Int) = _
    rw [BitVec.ofInt_natCast, BitVec.ofInt_natCast, BitVec.toNat_or, BitVec.toNat_ofNat, BitVec.toNat_ofNat, Nat.mod_eq_of_lt ha, Nat.mod_eq_of_lt hb]
    exact wrap_u64 _ (by omega) (by rw [← e] at h2; omega)
  · show IntKind.u64.wrap ((BitVec.ofInt 64 (a : Int) ^^^ BitVec.ofInt 64 (b : Int)).toNat : Int) = _
    rw [BitVec.ofInt_natCast, BitVec.ofInt_natCast, BitVec.toNat_xor, BitVec.toNat_ofNat, BitVec.toNat_ofNat, Nat.mod_eq_of_lt ha, Nat.mod_eq_of_lt hb]
    exact wrap_u64 _ (by omega) (by rw [← e] at h3; omega)
theorem bits_i64 (a b : Nat) (ha : a < 9223372036854775808) (hb : b < 9223372036854775808) :
    bits .and .i64 (a : Int) (b : Int) = ((a &&& b : Nat) : Int) ∧ bits .or .i64 (a : Int) (b : Int) = ((a ||| b : Nat) : Int) ∧ bits .xor .i64 (a : Int) (b : Int) = ((a ^^^ b : Nat) : Int) := by
  have e : (9223372036854775808 : Nat) = 2 ^ 63 := by decide
  have e2 : (9223372036854775808 : Nat) < 2 ^ 64 := by decide
  have h1 : (a &&& b) < 2 ^ 63 := Nat.and_lt_two_pow a (by rw [← e]; exact hb)
  have h2 : (a ||| b) < 2 ^ 63 := Nat.or_lt_two_pow (by rw [← e]; exact ha) (by rw [← e]; exact hb)
  have h3 : (a ^^^ b) < 2 ^ 63 := Nat.xor_lt_two_pow (by rw [← e]; exact ha) (by rw [← e]; exact hb)
  have ha2 := Nat.lt_trans ha e2
  have hb2 := Nat.lt_trans hb e2
  refine ⟨?_, ?_, ?_⟩
  · show IntKind.i64.wrap ((BitVec.ofInt 64 (a : Int) &&& BitVec.ofInt 64 (b : Int)).toNat : Int) = _
    rw [BitVec.ofInt_natCast, BitVec.ofInt_natCast, BitVec.toNat_and, BitVec.toNat_ofNat, BitVec.toNat_ofNat, Nat.mod_eq_of_lt ha2, Nat.mod_eq_of_lt hb2]
    exact wrap_i64' _ (by omega) (by rw [← e] at h1; omega)
  · show IntKind.i64.wrap ((BitVec.ofInt 64 (a : Int) ||| BitVec.ofInt 64 (b : Int)).toNat : Int) = _
    rw [BitVec.ofInt_natCast, BitVec.ofInt_natCast, BitVec.toNat_or, BitVec.toNat_ofNat, BitVec.toNat_ofNat, Nat.mod_eq_of_lt ha2, Nat.mod_eq_of_lt hb2]
    exact wrap_i64' _ (by omega) (by rw [← e] at h2; omega)
  · show IntKind.i64.wrap ((BitVec.ofInt 64 (a : Int) ^^^ BitVec.ofInt 64 (b : Int)).toNat : Int) = _
    rw [BitVec.ofInt_natCast, BitVec.ofInt_natCast, BitVec.toNat_xor, BitVec.toNat_ofNat, BitVec.toNat_ofNat, Nat.mod_eq_of_lt ha2, Nat.mod_eq_of_lt hb2]
    exact wrap_i64' _ (by omega) (by rw [← e] at h3; omega)
/-- Bit i of a number. -/
def bitN (n i : Nat) : Bool := n.testBit i
theorem bit_and (n i : Nat) : ((n / 2 ^ i) &&& 1 : Nat) = if bitN n i = true then 1 else 0 := by
  unfold bitN
  rw [Nat.testBit_eq_decide_div_mod_eq, Nat.and_one_is_mod]
  rcases Nat.mod_two_eq_zero_or_one (n / 2 ^ i) with h | h <;> simp [h]
end Go.Proofs.YtmeefmoblkiebaaGreat
/- Contracts: the source of choices (spec.l00Src). -/
namespace Go.Proofs.YtmeefmoblkiebaaGreat
open Go.RowKit
set_option linter.unusedVariables false
set_option linter.unusedSimpArgs false
set_option maxHeartbeats 400000
set_option maxRecDepth 100000
abbrev U8c (n : Int) : List Value := [.int .u8 n]
theorem U8c_len (n : Int) : (U8c n).length = 1 := rfl
def BytesOk (code : List Int) : Prop := code.length ≤ 10000 ∧ ∀ k (h : k < code.length), 0 ≤ code[k] ∧ code[k] ≤ 255
/-- A source of choices: at most k have been drawn. -/
def SrcAt (w : World) (p : Nat) (code : List Int) (k : Nat) : Prop :=
  ∃ (a : Option Addr) (cap n : Nat) (seed : Int), w.heap[p]? = some (.cells #[.slice a code.length cap, .int .i64 (n : Int), .int .u64 seed] 136 (0, 0)) ∧ SlAt p w a (flat U8c code) ∧ n ≤ k
theorem SrcAt.lt {w : World} {p : Nat} {code : List Int} {k : Nat} (h : SrcAt w p code k) : p < w.heap.size := by
  obtain ⟨a, cap, n, seed, hh, -⟩ := h
  exact lt_of_block hh
theorem SrcAt.le {w : World} {p : Nat} {code : List Int} {k k' : Nat} (h : SrcAt w p code k) (hk : k ≤ k') : SrcAt w p code k' := by
  obtain ⟨a, cap, n, seed, hh, h1, h2⟩ := h
  exact ⟨a, cap, n, seed, hh, h1, Nat.le_trans h2 hk⟩
theorem SlAt.grownP {B p : Nat} {w w' : World} {a : Option Addr} {xs : List Value} {row : Option Nat} (hp : SlAt B w a xs) (h : w.grownBy w' row) (hB : B ≤ w.heap.size) (hr : ∀ g, row = some g → B ≤ g) : SlAt B w' a xs := by
  intro i hi
  obtain ⟨b, off, h1, h2, h3⟩ := hp i hi
  refine ⟨b, off, h1, h2, ?_⟩
  rw [World.cell?_of_block (a := ⟨b, off + i, none⟩) (h.block b (by omega) (fun e => by have := hr b e.symm; omega))]
  exact h3
/-- A source that is left alone. -/
theorem SrcAt.grown {w w' : World} {p : Nat} {code : List Int} {k : Nat} {row : Option Nat} (h : SrcAt w p code k) (hg : w.grownBy w' row) (hr : ∀ g, row = some g → p < g) : SrcAt w' p code k := by
  have hlt := h.lt
  obtain ⟨a, cap, n, seed, hh, h1, h2⟩ := h
  refine ⟨a, cap, n, seed, ?_, h1.grownP (p := p) hg (by omega) (fun g e => by have := hr g e; omega), h2⟩
  rw [hg.block p hlt (fun e => by have := hr p e.symm; omega)]
  exact hh
theorem SrcAt.step {w w' : World} {p : Nat} {code : List Int} {k B : Nat} (h : SrcAt w p code k) (hb : Below B w w') (hp : p < B) : SrcAt w' p code k := by
  obtain ⟨a, cap, n, seed, hh, h1, h2⟩ := h
  exact ⟨a, cap, n, seed, by rw [hb.block p hp]; exact hh, h1.below hb (by omega), h2⟩
theorem three_cells {w : World} {p : Nat} {x y z : Value} {T : TypeId} (h : w.heap[p]? = some (.cells #[x, y, z] T (0, 0))) :
    w.cell? ⟨p, 0, none⟩ = some x ∧ w.cell? ⟨p, 1, none⟩ = some y ∧ w.cell? ⟨p, 2, none⟩ = some z ∧ ∀ i, w.frozen? ⟨p, i, none⟩ = false := by
  refine ⟨by simp [World.cell?, h], by simp [World.cell?, h], by simp [World.cell?, h], fun i => by simp [World.frozen?, h]⟩
theorem three_set1 {w : World} {p : Nat} {x y z u : Value} {T : TypeId} (h : w.heap[p]? = some (.cells #[x, y, z] T (0, 0))) : (w.setCell ⟨p, 1, none⟩ u).heap[p]? = some (.cells #[x, u, z] T (0, 0)) := by
  have hlt := lt_of_block h
  have h' : w.heap[p] = .cells #[x, y, z] T (0, 0) := by simpa [Array.getElem?_eq_getElem hlt] using h
  show (w.heap.modify p _)[p]? = _
  rw [Array.getElem?_eq_getElem (by simpa using hlt), Array.getElem_modify_self, h']
  rfl
theorem three_set2 {w : World} {p : Nat} {x y z u : Value} {T : TypeId} (h : w.heap[p]? = some (.cells #[x, y, z] T (0, 0))) : (w.setCell ⟨p, 2, none⟩ u).heap[p]? = some (.cells #[x, y, u] T (0, 0)) := by
  have hlt := lt_of_block h
  have h' : w.heap[p] = .cells #[x, y, z] T (0, 0) := by simpa [Array.getElem?_eq_getElem hlt] using h
  show (w.heap.modify p _)[p]? = _
  rw [Array.getElem?_eq_getElem (by simpa using hlt), Array.getElem_modify_self, h']
  rfl
theorem grown_set1 (w : World) (p o : Nat) (u : Value) : w.grownBy (w.setCell ⟨p, o, none⟩ u) (some p) :=
  ⟨rfl, rfl, rfl, by simp, fun k _ hk => heap_setCell_other w ⟨p, o, none⟩ k u (fun e => hk (by simp [e]))⟩
theorem and255 (y : Int) : 0 ≤ bits .and .u64 y 255 ∧ bits .and .u64 y 255 ≤ 255 := by
  have h1 : ((BitVec.ofInt 64 y &&& BitVec.ofInt 64 255).toNat : Nat) ≤ 255 := by
    rw [BitVec.toNat_and]
    exact Nat.le_trans Nat.and_le_right (by decide)
  have h2 : bits .and .u64 y 255 = ((BitVec.ofInt 64 y &&& BitVec.ofInt 64 255).toNat : Int) := by
    show IntKind.u64.wrap ((BitVec.ofInt 64 y &&& BitVec.ofInt 64 255).toNat : Int) = _
    exact wrap_u64 _ (by omega) (by omega)
  rw [h2]
  omega
theorem src_facts {w : World} {p n k cap : Nat} {seed : Int} {code : List Int} {a : Option Addr} (hh : w.heap[p]? = some (.cells #[.slice a code.length cap, .int .i64 (n : Int), .int .u64 seed] 136 (0, 0))) (hsl : SlAt p w a (flat U8c code)) (hle : n ≤ k) :
    ∀ W : World, w.grownBy W none → w.grownBy W (some p) ∧ (W.cell? ⟨p, 0, none⟩ = some (.slice a code.length cap) ∧ W.cell? ⟨p, 1, none⟩ = some (.int .i64 (n : Int)) ∧ W.cell? ⟨p, 2, none⟩ = some (.int .u64 seed) ∧ ∀ i, W.frozen? ⟨p, i, none⟩ = false) ∧
      ((W.setCell ⟨p, 1, none⟩ (.int .i64 ((n : Int) + 1))).cell? ⟨p, 0, none⟩ = some (.slice a code.length cap) ∧ (W.setCell ⟨p, 1, none⟩ (.int .i64 ((n : Int) + 1))).cell? ⟨p, 1, none⟩ = some (.int .i64 ((n : Int) + 1)) ∧ (W.setCell ⟨p, 1, none⟩ (.int .i64 ((n : Int) + 1))).cell? ⟨p, 2, none⟩ = some (.int .u64 seed) ∧ ∀ i, (W.setCell ⟨p, 1, none⟩ (.int .i64 ((n : Int) + 1))).frozen? ⟨p, i, none⟩ = false) ∧
      (∀ u : Int, ((W.setCell ⟨p, 1, none⟩ (.int .i64 ((n : Int) + 1))).setCell ⟨p, 2, none⟩ (.int .u64 u)).cell? ⟨p, 0, none⟩ = some (.slice a code.length cap)) ∧
      (∀ u : Int, ((W.setCell ⟨p, 1, none⟩ (.int .i64 ((n : Int) + 1))).setCell ⟨p, 2, none⟩ (.int .u64 u)).cell? ⟨p, 1, none⟩ = some (.int .i64 ((n : Int) + 1))) ∧
      (∀ u : Int, ((W.setCell ⟨p, 1, none⟩ (.int .i64 ((n : Int) + 1))).setCell ⟨p, 2, none⟩ (.int .u64 u)).cell? ⟨p, 2, none⟩ = some (.int .u64 u)) ∧ True ∧
      (∀ u : Int, SrcAt ((W.setCell ⟨p, 1, none⟩ (.int .i64 ((n : Int) + 1))).setCell ⟨p, 2, none⟩ (.int .u64 u)) p code (k + 1) ∧ w.grownBy ((W.setCell ⟨p, 1, none⟩ (.int .i64 ((n : Int) + 1))).setCell ⟨p, 2, none⟩ (.int .u64 u)) (some p)) := by
  intro W hg
  have hlt := lt_of_block hh
  have hgp : w.grownBy W (some p) := ⟨hg.os, hg.tape, hg.output, hg.size, fun k hk _ => hg.block k hk (by simp)⟩
  have hH : W.heap[p]? = some (.cells #[.slice a code.length cap, .int .i64 (n : Int), .int .u64 seed] 136 (0, 0)) := by rw [hg.block p hlt (by simp)]; exact hh
  have hltW := lt_of_block hH
  have h1 := three_set1 (u := .int .i64 ((n : Int) + 1)) hH
  refine ⟨hgp, three_cells hH, three_cells h1, fun u => (three_cells (three_set2 h1)).1, fun u => (three_cells (three_set2 h1)).2.1, fun u => (three_cells (three_set2 h1)).2.2.1, trivial, ?_⟩
  intro u
  have h2 := three_set2 (u := .int .u64 u) h1
  refine ⟨⟨a, cap, n + 1, u, h2, ?_, by omega⟩, grown_trans hgp (grown_trans (grown_set1 W p 1 _) (grown_set1 _ p 2 _))⟩
  have h3 : SlAt p W a (flat U8c code) := hsl.grownP (p := p) hg (by omega) (fun g e => by cases e)
  exact (h3.grownP (p := p) (grown_set1 W p 1 _) (by omega) (fun g e => by cases e; exact Nat.le_refl _)).grownP (p := p) (grown_set1 _ p 2 _) (by simp; omega) (fun g e => by cases e; exact Nat.le_refl _)
theorem wrap_i8' {n : Int} (h1 : -9000000000000000000 ≤ n) (h2 : n ≤ 9000000000000000000) : wrap64 n = n := by unfold wrap64; omega
theorem l00From_any (a : Option Addr) (cap : Nat) (code : List Int) (w : World) (h : SlAt w.heap.size w a (flat U8c code)) :
    Calls Tryz.prog 42 #[.slice a code.length cap] w fun e w' => e = .returned (.pointer (some ⟨w.heap.size, 0, none⟩)) ∧ SrcAt w' w.heap.size code 0 ∧ Below w.heap.size w w' := by
  have hb : Below w.heap.size w (w.alloc (.cells #[.slice a code.length cap, .int .i64 0, .int .u64 0] 136)) := bl_alloc (Below.refl _ _)
  have hs : SrcAt (w.alloc (.cells #[.slice a code.length cap, .int .i64 0, .int .u64 0] 136)) w.heap.size code 0 := by
    refine ⟨a, cap, 0, 0, ?_, h.below hb (Nat.le_refl _), Nat.le_refl _⟩
    exact heap_alloc_new _ _
  go_enter Tryz.func42, Tryz.ntmps42
  go_wp2
  go_ret
  exact ⟨rfl, hs, hb⟩
theorem srcNext_any (p : Nat) (code : List Int) (k : Nat) (w : World) (hs : SrcAt w p code k) (hc : BytesOk code) (hk : k ≤ 1000000) :
    Calls Tryz.prog 118 #[.pointer (some ⟨p, 0, none⟩)] w fun e w' => ∃ v : Int, e = .returned (.int .i64 v) ∧ 0 ≤ v ∧ v ≤ 255 ∧ SrcAt w' p code (k + 1) ∧ w.grownBy w' (some p) := by
  obtain ⟨a, cap, n, seed, hh, hsl, hle⟩ := hs
  have hlt := lt_of_block hh
  have FACTS := Lib.hid (src_facts (code := code) (k := k) hh hsl hle)
  obtain ⟨c0, c1, c2, hf⟩ := three_cells hh
  have hw : IntKind.i64.wrap ((n : Int) + 1) = (n : Int) + 1 := wrap_i64' _ (by omega) (by omega)
  have hcl := hc.1
  rcases dec_cases ((n : Int) < (code.length : Int)) with ⟨g1, g2⟩ | ⟨g1, g2⟩
  · have hn : n < code.length := by omega
    obtain ⟨b, off, rfl, hbp, hget⟩ := hsl.get U8c_len (by omega) hn
    have hget0 := hget 0 _ rfl
    rw [Nat.mul_one, Nat.add_zero] at hget0
    obtain ⟨b0, b1⟩ := hc.2 n hn
    obtain ⟨v, hv⟩ : ∃ v, v = code[n] := ⟨_, rfl⟩
    rw [← hv] at hget0 b0 b1
    have hwv : IntKind.i64.wrap v = v := wrap_i64' _ (by omega) (by omega)
    have g3 : decide ((n : Int) + 1 ≤ (code.length : Int)) = true := by simp; omega
    clear hget hsl hle hv hh
    go_enter Tryz.func118, Tryz.ntmps118
    go_wp2_with fail
    go_quiet (fail)
    go_wp2_with fail
    go_quiet (fail)
    generalize hW : World.drewN _ nq = W
    obtain ⟨hgW, ⟨p0, p1, p2, pf⟩, ⟨d0, d1, d2, hf1⟩, e0, e1, e2, -, key⟩ := FACTS.out W (by rw [← hW]; exact ⟨rfl, rfl, rfl, Nat.le_refl _, fun _ _ _ => rfl⟩)
    clear c0 c1 c2 hf hget0 hW
    go_wp2
    go_quiet (fail)
    go_wp2
    go_ret
    obtain ⟨K1, K2⟩ := key (IntKind.u64.wrap (IntKind.u64.wrap (IntKind.u64.wrap (seed * 6364136223846793005) + v) + 1442695040888963407))
    exact ⟨_, rfl, b0, b1, K1.grown (row := none) ⟨rfl, rfl, rfl, Nat.le_refl _, fun _ _ _ => rfl⟩ (fun g e => by cases e), grown_trans K2 ⟨rfl, rfl, rfl, Nat.le_refl _, fun _ _ _ => rfl⟩⟩
  · have g3 : decide ((n : Int) + 1 ≤ (code.length : Int)) = false := by simp; omega
    clear hsl hle hh
    go_enter Tryz.func118, Tryz.ntmps118
    go_wp2_with fail
    go_quiet (fail)
    generalize hW : World.drewN _ nq = W
    obtain ⟨hgW, ⟨p0, p1, p2, pf⟩, ⟨d0, d1, d2, hf1⟩, e0, e1, e2, -, key⟩ := FACTS.out W (by rw [← hW]; exact ⟨rfl, rfl, rfl, Nat.le_refl _, fun _ _ _ => rfl⟩)
    clear c0 c1 c2 hf hW
    go_wp2
    go_quiet (fail)
    go_wp2
    go_ret
    obtain ⟨K1, K2⟩ := key (IntKind.u64.wrap (IntKind.u64.wrap (IntKind.u64.wrap (seed * 6364136223846793005)) + 1442695040888963407))
    have h255 := and255 (IntKind.u64.wrap (IntKind.u64.wrap (IntKind.u64.wrap (seed * 6364136223846793005)) + 1442695040888963407) / 1099511627776)
    have e255 : wrap64 (bits .and .u64 (IntKind.u64.wrap (IntKind.u64.wrap (IntKind.u64.wrap (seed * 6364136223846793005)) + 1442695040888963407) / 1099511627776) 255) = bits .and .u64 (IntKind.u64.wrap (IntKind.u64.wrap (IntKind.u64.wrap (seed * 6364136223846793005)) + 1442695040888963407) / 1099511627776) 255 := wrap_i8' (by omega) (by omega)
    refine ⟨_, rfl, ?_, ?_, K1.grown (row := none) ⟨rfl, rfl, rfl, Nat.le_refl _, fun _ _ _ => rfl⟩ (fun g e => by cases e), grown_trans K2 ⟨rfl, rfl, rfl, Nat.le_refl _, fun _ _ _ => rfl⟩⟩
    · rw [e255]; exact h255.1
    · rw [e255]; exact h255.2
end Go.Proofs.YtmeefmoblkiebaaGreat
/- Contracts: numbers and chances from the source of choices. -/
namespace Go.Proofs.YtmeefmoblkiebaaGreat
open Go.RowKit
set_option linter.unusedVariables false
set_option linter.unusedSimpArgs false
set_option maxHeartbeats 400000
set_option maxRecDepth 100000
theorem pick_any (p : Nat) (code : List Int) (k : Nat) (w : World) (n : Int) (hs : SrcAt w p code k) (hc : BytesOk code) (hk : k ≤ 900000) (hn : n ≤ 1000000) :
    Calls Tryz.prog 67 #[.pointer (some ⟨p, 0, none⟩), .int .i64 n] w fun e w' => ∃ v : Int, e = .returned (.int .i64 v) ∧ 0 ≤ v ∧ v < max n 1 ∧ SrcAt w' p code (k + 2) ∧ w.grownBy w' (some p) := by
  rcases dec_cases (n ≤ 1) with ⟨g1, g2⟩ | ⟨g1, g2⟩
  · go_enter Tryz.func67, Tryz.ntmps67
    go_wp2
    go_ret
    exact ⟨0, rfl, by omega, by omega, hs.le (by omega), ⟨rfl, rfl, rfl, Nat.le_refl _, fun _ _ _ => rfl⟩⟩
  · rcases dec_cases (n > 200) with ⟨g3, g4⟩ | ⟨g3, g4⟩
    · go_enter Tryz.func67, Tryz.ntmps67
      go_wp2_with fail
      refine (srcNext_any p code k w hs hc (by omega)).mono ?_
      rintro e w1 ⟨x, rfl, x0, x1, hs1, hg1⟩
      have N2 := Lib.hid (srcNext_any p code (k + 1) w1 hs1 hc (by omega))
      have e1 : IntKind.i64.wrap (x * 256) = x * 256 := wrap_i64' _ (by omega) (by omega)
      clear hs hs1
      go_wp2_with fail
      refine N2.out.mono ?_
      rintro e w2 ⟨y, rfl, y0, y1, hs2, hg2⟩
      have e2 : IntKind.i64.wrap (x * 256 + y) = x * 256 + y := wrap_i64' _ (by omega) (by omega)
      go_wp2
      go_ret
      exact ⟨_, rfl, Int.emod_nonneg _ (by omega), Int.lt_of_lt_of_le (Int.emod_lt_of_pos _ (by omega)) (by omega), hs2, grown_trans hg1 hg2⟩
    · go_enter Tryz.func67, Tryz.ntmps67
      go_wp2_with fail
      refine (srcNext_any p code k w hs hc (by omega)).mono ?_
      rintro e w1 ⟨x, rfl, x0, x1, hs1, hg1⟩
      go_wp2
      go_ret
      exact ⟨_, rfl, Int.emod_nonneg _ (by omega), Int.lt_of_lt_of_le (Int.emod_lt_of_pos _ (by omega)) (by omega), hs1.le (by omega), hg1⟩
theorem one_any (p : Nat) (code : List Int) (k : Nat) (w : World) (n : Int) (hs : SrcAt w p code k) (hc : BytesOk code) (hk : k ≤ 900000) (hn : n ≤ 1000000) :
    Calls Tryz.prog 96 #[.pointer (some ⟨p, 0, none⟩), .int .i64 n] w fun e w' => ∃ v : Bool, e = .returned (.bool v) ∧ SrcAt w' p code (k + 2) ∧ w.grownBy w' (some p) := by
  go_enter Tryz.func96, Tryz.ntmps96
  go_wp2_with fail
  refine (pick_any p code k w n hs hc hk hn).mono ?_
  rintro e w1 ⟨x, rfl, x0, x1, hs1, hg1⟩
  obtain ⟨v, hv⟩ : ∃ v, v = (x == 0) := ⟨_, rfl⟩
  go_wp2
  go_ret
  exact ⟨_, rfl, hs1, hg1⟩
end Go.Proofs.YtmeefmoblkiebaaGreat
/- Contracts: a piece that is drawn. -/
namespace Go.Proofs.YtmeefmoblkiebaaGreat
open Go.RowKit
set_option linter.unusedVariables false
set_option linter.unusedSimpArgs false
set_option maxHeartbeats 400000
set_option maxRecDepth 100000
theorem grown_refl (w : World) (row : Option Nat) : w.grownBy w row := ⟨rfl, rfl, rfl, Nat.le_refl _, fun _ _ _ => rfl⟩
theorem grownS_drewN {a w : World} {row : Option Nat} (h : a.grownBy w row) (n : Nat) : a.grownBy (w.drewN n) row := grown_trans h ⟨rfl, rfl, rfl, Nat.le_refl _, fun _ _ _ => rfl⟩
theorem grownS_drew {a w : World} {row : Option Nat} (h : a.grownBy w row) : a.grownBy w.drew row := grown_trans h ⟨rfl, rfl, rfl, Nat.le_refl _, fun _ _ _ => rfl⟩
theorem SrcAt.drewN {w : World} {p : Nat} {code : List Int} {k : Nat} (h : SrcAt w p code k) {n : Nat} : SrcAt (w.drewN n) p code k := h.grown (row := none) ⟨rfl, rfl, rfl, Nat.le_refl _, fun _ _ _ => rfl⟩ (fun g e => by cases e)
theorem SrcAt.drew {w : World} {p : Nat} {code : List Int} {k : Nat} (h : SrcAt w p code k) : SrcAt w.drew p code k := h.grown (row := none) ⟨rfl, rfl, rfl, Nat.le_refl _, fun _ _ _ => rfl⟩ (fun g e => by cases e)
theorem SrcAt.alloc {w : World} {p : Nat} {code : List Int} {k : Nat} (h : SrcAt w p code k) {o : Obj} : SrcAt (w.alloc o) p code k := h.step (Below.alloc (Below.refl w.heap.size w) (Nat.le_refl _) _) h.lt
theorem grownS_alloc {a w : World} {row : Option Nat} (h : a.grownBy w row) (o : Obj) : a.grownBy (w.alloc o) row := grown_trans h (World.grownBy_alloc w o row)
theorem ext_g {w w' : World} {p b : Nat} (h : w.grownBy w' (some p)) (hb : b < w.heap.size) (hp : b ≠ p) : w.grownBy w' (some p) ∧ ∀ o, w'.cell? ⟨b, o, none⟩ = w.cell? ⟨b, o, none⟩ :=
  ⟨h, fun o => World.cell?_of_block (a := ⟨b, o, none⟩) (h.block b hb (fun e => hp (by simpa using e)))⟩
theorem five_cells {w : World} {b : Nat} {v0 v1 v2 v3 v4 : Value} {T : TypeId} (h : w.heap[b]? = some (.cells #[v0, v1, v2, v3, v4] T (0, 0))) :
    w.cell? ⟨b, 0, none⟩ = some v0 ∧ w.cell? ⟨b, 1, none⟩ = some v1 ∧ w.cell? ⟨b, 2, none⟩ = some v2 ∧ w.cell? ⟨b, 3, none⟩ = some v3 ∧ w.cell? ⟨b, 4, none⟩ = some v4 ∧
    w.frozen? ⟨b, 0, none⟩ = false ∧ w.frozen? ⟨b, 1, none⟩ = false ∧ w.frozen? ⟨b, 2, none⟩ = false ∧ w.frozen? ⟨b, 3, none⟩ = false ∧ w.frozen? ⟨b, 4, none⟩ = false := by
  refine ⟨by simp [World.cell?, h], by simp [World.cell?, h], by simp [World.cell?, h], by simp [World.cell?, h], by simp [World.cell?, h], by simp [World.frozen?, h], by simp [World.frozen?, h], by simp [World.frozen?, h], by simp [World.frozen?, h], by simp [World.frozen?, h]⟩
theorem alloc_kept {u w2 : World} {o : Obj} {p : Nat} (h : (u.alloc o).grownBy w2 (some p)) (hp : p < u.heap.size) : w2.heap[u.heap.size]? = some o := by
  rw [h.block u.heap.size (by simp) (fun e => by simp at e; omega)]
  exact heap_alloc_new _ _
theorem grown_new {w w2 w3 : World} {p b : Nat} (h : w.grownBy w2 (some p)) (k : w2.grownBy w3 (some b)) (hb : w.heap.size ≤ b) : w.grownBy w3 (some p) :=
  ⟨k.os.trans h.os, k.tape.trans h.tape, k.output.trans h.output, Nat.le_trans h.size k.size, fun i hi hne => (k.block i (Nat.lt_of_lt_of_le hi h.size) (fun e => by simp at e; omega)).trans (h.block i hi hne)⟩
theorem grown_setNew {a w : World} {p b o : Nat} (h : a.grownBy w (some p)) (hb : a.heap.size ≤ b) (u : Value) : a.grownBy (w.setCell ⟨b, o, none⟩ u) (some p) := grown_new h (grown_set1 w b o u) hb
theorem alloc_keptD {u w2 : World} {o : Obj} {p : Nat} (h : (u.alloc o).drew.grownBy w2 (some p)) (hp : p < u.heap.size) : w2.heap[u.heap.size]? = some o := alloc_kept (grown_trans (grownS_drew (grown_refl (u.alloc o) (some p))) h) hp
theorem gcell {u w : World} {p : Nat} (h : u.grownBy w (some p)) : (∀ b o, b < u.heap.size → p < b → w.cell? ⟨b, o, none⟩ = u.cell? ⟨b, o, none⟩) ∧ (∀ b o, b < u.heap.size → p < b → w.frozen? ⟨b, o, none⟩ = u.frozen? ⟨b, o, none⟩) := by
  have key : ∀ b, b < u.heap.size → p < b → w.heap[b]? = u.heap[b]? := fun b hb hp => h.block b hb (fun e => by simp at e; omega)
  exact ⟨fun b o hb hp => by simp [World.cell?, key b hb hp], fun b o hb hp => by simp [World.frozen?, key b hb hp]⟩
theorem set_block {w : World} {b : Nat} {c : Array Value} {T : TypeId} (h : w.heap[b]? = some (.cells c T (0, 0))) (o : Nat) (u : Value) : (w.setCell ⟨b, o, none⟩ u).heap[b]? = some (.cells (c.setIfInBounds o u) T (0, 0)) := by
  have hlt := lt_of_block h
  have h' : w.heap[b] = .cells c T (0, 0) := by simpa [Array.getElem?_eq_getElem hlt] using h
  show (w.heap.modify b _)[b]? = _
  rw [Array.getElem?_eq_getElem (by simpa using hlt), Array.getElem_modify_self, h']
  rfl
theorem five_set {w : World} {b : Nat} {v0 v1 v2 v3 v4 : Value} {T : TypeId} (h : w.heap[b]? = some (.cells #[v0, v1, v2, v3, v4] T (0, 0))) (u0 u1 u2 u3 u4 : Value) :
    (((((w.setCell ⟨b, 0, none⟩ u0).setCell ⟨b, 1, none⟩ u1).setCell ⟨b, 2, none⟩ u2).setCell ⟨b, 3, none⟩ u3).setCell ⟨b, 4, none⟩ u4).heap[b]? = some (.cells #[u0, u1, u2, u3, u4] T (0, 0)) :=
  set_block (set_block (set_block (set_block (set_block h 0 u0) 1 u1) 2 u2) 3 u3) 4 u4
theorem SrcAt.setNew {w : World} {p b o : Nat} {code : List Int} {k : Nat} (h : SrcAt w p code k) (hb : p < b) (u : Value) : SrcAt (w.setCell ⟨b, o, none⟩ u) p code k := h.grown (row := some b) (grown_set1 w b o u) (fun g e => by cases e; exact hb)
theorem w8b {x m : Int} (h0 : 0 ≤ x) (h1 : x < m) (hm : m ≤ 100) : 0 ≤ IntKind.i8.wrap x ∧ IntKind.i8.wrap x < m := by
  simp [IntKind.wrap, IntKind.bits, IntKind.signed]; omega
theorem fin_piece {W wx : World} {p k b : Nat} {code : List Int} {v0 v1 v4 : Value} {x y : Int} {T : TypeId} (h : wx.heap[b]? = some (.cells #[v0, v1, .int .i8 x, .int .i8 y, v4] T (0, 0))) (hb : W.heap.size ≤ b) (hx : 0 ≤ x ∧ x ≤ 5) (hy : 0 ≤ y ∧ y ≤ 3) (hs : SrcAt wx p code k) (hg : W.grownBy wx (some p)) :
    ∃ (b' : Nat) (x y : Int), Value.pointer (some ⟨b, 0, none⟩) = .pointer (some ⟨b', 0, none⟩) ∧ W.heap.size ≤ b' ∧ wx.heap[b']? = some (.cells #[v0, v1, .int .i8 x, .int .i8 y, v4] T (0, 0)) ∧ (0 ≤ x ∧ x ≤ 5) ∧ (0 ≤ y ∧ y ≤ 3) ∧ SrcAt wx p code k ∧ W.grownBy wx (some p) :=
  ⟨b, x, y, rfl, hb, h, hx, hy, hs, hg⟩
set_option maxHeartbeats 1600000 in
theorem l01PieceDrawn_any (p : Nat) (code : List Int) (k : Nat) (w : World) (c : Ce) (hs : SrcAt w p code k) (hc : BytesOk code) (hk : k ≤ 800000) (hco : c.ok) :
    Calls Tryz.prog 97 #[.pointer (some ⟨p, 0, none⟩), c.val] w fun e w' => ∃ P : Pc, e = .returned P.val ∧ P.x = c.x ∧ P.y = c.y ∧ 0 ≤ P.k ∧ P.k ≤ 5 ∧ 0 ≤ P.t ∧ P.t ≤ 3 ∧ 1 ≤ P.d ∧ P.d ≤ 4 ∧ SrcAt w' p code (k + 8) ∧ w.grownBy w' (some p) := by
  have hlt := hs.lt
  obtain ⟨cx, cy⟩ := c
  obtain ⟨W, hW⟩ : ∃ W, W = (w.alloc (.cells #[.int .i8 cx, .int .i8 cy] 47)).alloc (.cells #[.int .i8 0, .int .i8 0, .int .i8 0, .int .i8 0, .int .i8 0] 49) := ⟨_, rfl⟩
  have hWs : W.heap.size = w.heap.size + 2 := by rw [hW]; simp
  have hpW : p < W.heap.size := by omega
  have hWg : w.grownBy W (some p) := by rw [hW]; exact grownS_alloc (grownS_alloc (grown_refl _ _) _) _
  have hsW : SrcAt W p code k := by rw [hW]; exact hs.step (Below.alloc (Below.alloc (Below.refl w.heap.size w) (Nat.le_refl _) _) (by simp) _) hlt
  have hx0 : W.cell? ⟨w.heap.size, 0, none⟩ = some (.int .i8 cx) := by rw [hW]; simp [go_sem]
  have hx1 : W.cell? ⟨w.heap.size, 1, none⟩ = some (.int .i8 cy) := by rw [hW]; simp [go_sem]
  have hWq : W.heap[w.heap.size + 1]? = some (.cells #[.int .i8 0, .int .i8 0, .int .i8 0, .int .i8 0, .int .i8 0] 49 (0, 0)) := by
    rw [hW]
    have := heap_alloc_new (w.alloc (.cells #[.int .i8 cx, .int .i8 cy] 47)) (.cells #[.int .i8 0, .int .i8 0, .int .i8 0, .int .i8 0, .int .i8 0] 49)
    simpa using this
  have HP := Lib.hid (fun w' j (h : SrcAt w' p code j) (hj : j ≤ 900000) (n : Int) (hn : n ≤ 1000000) => pick_any p code j w' n h hc hj hn)
  go_enter Tryz.func97, Tryz.ntmps97
  go_wp2_with fail
  rw [← hW]
  clear hW
  have hWl : w.heap.size + 1 < W.heap.size := by omega
  have HWq := Lib.hid hWq
  clear hWs hWq
  go_cut [5] from 6 to 13 (fun s5 wx => ∃ (b : Nat) (x y : Int), s5 = .pointer (some ⟨b, 0, none⟩) ∧ W.heap.size ≤ b ∧ wx.heap[b]? = some (.cells #[.int .i8 cx, .int .i8 cy, .int .i8 x, .int .i8 y, .int .i8 1] 49 (0, 0)) ∧ (0 ≤ x ∧ x ≤ 5) ∧ (0 ≤ y ∧ y ≤ 3) ∧ SrcAt wx p code (k + 4) ∧ W.grownBy wx (some p))
  case first =>
    go_region_held3 (fun w' => W.grownBy w' (some p) ∧ ∀ o, w'.cell? ⟨w.heap.size, o, none⟩ = W.cell? ⟨w.heap.size, o, none⟩) ((refine ext_g ?_ (by omega) (by omega); exact (by repeat (first | with_reducible exact grown_refl _ _ | with_reducible assumption | with_reducible apply grownS_drewN | with_reducible apply grownS_drew | with_reducible apply grownS_alloc | (with_reducible refine grown_setNew ?_ (by first | omega | (simp; omega)) _) | with_reducible refine grown_trans ?_ (by with_reducible assumption))))) (first | (go_at_call 67; with_reducible (show Calls _ _ _ (World.alloc _ _) _); refine (HP.out _ _ (by repeat (first | with_reducible assumption | with_reducible apply SrcAt.drewN | with_reducible apply SrcAt.drew | with_reducible apply SrcAt.alloc | (with_reducible refine SrcAt.setNew ?_ (by omega) _))) (by omega) _ (by omega)).mono ?_; rintro e w1 ⟨x, rfl, x0, x1, hs1, hg1⟩; have hp1 := hs1.lt; have hwx := w8b x0 x1 (by omega); have hbk := Lib.hid (alloc_kept hg1 (by omega)); obtain ⟨y0, y1, y2, y3, y4, z0, z1, z2, z3, z4⟩ := five_cells hbk.out) | (go_at_call 67; with_reducible (show Calls _ _ _ (World.drew (World.alloc _ _)) _); refine (HP.out _ _ (by repeat (first | with_reducible assumption | with_reducible apply SrcAt.drewN | with_reducible apply SrcAt.drew | with_reducible apply SrcAt.alloc | (with_reducible refine SrcAt.setNew ?_ (by omega) _))) (by omega) _ (by omega)).mono ?_; rintro e w1 ⟨x, rfl, x0, x1, hs1, hg1⟩; have hp1 := hs1.lt; have hwx := w8b x0 x1 (by omega); have hbk := Lib.hid (alloc_keptD hg1 (by omega)); obtain ⟨y0, y1, y2, y3, y4, z0, z1, z2, z3, z4⟩ := five_cells hbk.out; have hz1 := hg1.size; (try simp [Nat.succ_le_iff] at hz1)) | (go_at_call 67; refine (HP.out _ _ (by repeat (first | with_reducible assumption | with_reducible apply SrcAt.drewN | with_reducible apply SrcAt.drew | with_reducible apply SrcAt.alloc | (with_reducible refine SrcAt.setNew ?_ (by omega) _))) (by omega) _ (by omega)).mono ?_; rintro e w1 ⟨x, rfl, x0, x1, hs1, hg1⟩; have hp1 := hs1.lt; have hwx := w8b x0 x1 (by omega); have hz1 := hg1.size; (try simp [Nat.succ_le_iff] at hz1); obtain ⟨hc1, hf1⟩ := gcell hg1))
    all_goals
      go_wp2_with fail
      go_meet
      with_reducible apply fin_piece
      · first | with_reducible exact heap_alloc_new _ _ | with_reducible exact five_set hbk.out _ _ _ _ _ | exact five_set ((hg1.block W.heap.size (by omega) (fun e => by simp at e; omega)).trans hbk.out) _ _ _ _ _
      · omega
      · omega
      · omega
      · exact (by repeat (first | with_reducible assumption | with_reducible apply SrcAt.drewN | with_reducible apply SrcAt.drew | with_reducible apply SrcAt.alloc | (with_reducible refine SrcAt.setNew ?_ (by omega) _)))
      · exact (by repeat (first | with_reducible exact grown_refl _ _ | with_reducible assumption | with_reducible apply grownS_drewN | with_reducible apply grownS_drew | with_reducible apply grownS_alloc | (with_reducible refine grown_setNew ?_ (by first | omega | (simp; omega)) _) | with_reducible refine grown_trans ?_ (by with_reducible assumption)))
  case rest =>
    obtain ⟨b, x, y, rfl, hb, hblk, hx, hy, hs4, hg4⟩ := hcut
    go_wp2_with fail
    refine (one_any p code (k + 4) wc 3 hs4 hc (by omega) (by omega)).mono ?_
    rintro e w2 ⟨v, rfl, hs6, hg6⟩
    have hg2 := grown_trans hg4 hg6
    have hb2 := (hg6.block b (lt_of_block hblk) (fun e => by simp at e; omega)).trans hblk
    have hq2 := (hg2.block (w.heap.size + 1) hWl (fun e => by simp at e; omega)).trans HWq.out
    have hbne : b ≠ w.heap.size + 1 := by omega
    clear hblk hg6 hs4 HP hx0 hx1
    have hwp : p < w.heap.size + 1 := by omega
    cases v with
    | true =>
      go_wp2_with fail
      refine (pick_any p code (k + 6) w2 4 hs6 hc (by omega) (by omega)).mono ?_
      rintro e w3 ⟨u, rfl, u0, u1, hs8, hg8⟩
      have u2 : u ≤ 3 := by omega
      have e1 : IntKind.i64.wrap (1 + u) = 1 + u := wrap_i64' _ (by omega) (by omega)
      have e2 : IntKind.i8.wrap (1 + u) = 1 + u := by simp [IntKind.wrap, IntKind.bits, IntKind.signed]; omega
      have hb3 := (hg8.block b (lt_of_block hb2) (fun e => by simp at e; omega)).trans hb2
      have hq3 := (hg8.block (w.heap.size + 1) (lt_of_block hq2) (fun e => by simp at e; omega)).trans hq2
      have hb4 : (w3.setCell ⟨b, 4, none⟩ (.int .i8 (1 + u))).heap[b]? = _ := set_block hb3 4 _
      have hq4 : (w3.setCell ⟨b, 4, none⟩ (.int .i8 (1 + u))).heap[w.heap.size + 1]? = _ := (heap_setCell_other w3 ⟨b, 4, none⟩ (w.heap.size + 1) (.int .i8 (1 + u)) (fun e => hbne (by simp at e; omega))).trans hq3
      have HB4 := Lib.hid hb4
      have HQ4 := Lib.hid hq4
      obtain ⟨a0, a1, a2, a3, a4, f0, f1, f2, f3, f4⟩ := five_cells hb3
      obtain ⟨c0, c1, c2, c3, c4, d0, d1, d2, d3, d4⟩ := five_cells hq3
      have hg9 : w.grownBy (w3.setCell ⟨b, 4, none⟩ (.int .i8 (1 + u))) (some p) := by
        have hgA := grown_trans hWg (grown_trans hg2 hg8)
        exact grown_setNew hgA (by omega) _
      have hs9 : SrcAt (w3.setCell ⟨b, 4, none⟩ (.int .i8 (1 + u))) p code (k + 8) := by
        have := hs8.lt
        exact SrcAt.setNew hs8 (by omega) _
      clear hb3 hq3 hb4 hq4 hb2 hq2 hg8 hs8 hg2 hs6 hg4 hWg
      go_wp2
      have hh := five_set HQ4.out (.int .i8 cx) (.int .i8 cy) (.int .i8 x) (.int .i8 y) (.int .i8 (1 + u))
      refine bodyPost_ret (v := .agg #[.int .i8 cx, .int .i8 cy, .int .i8 x, .int .i8 y, .int .i8 (1 + u)]) (results_cell_row Tryz.results97 _ _ (w.heap.size + 1) 49 _ (0, 0) _ rfl hh Tryz.underlying49 rfl (by kernel_rfl)) rfl ⟨⟨cx, cy, x, y, 1 + u⟩, rfl, rfl, rfl, hx.1, hx.2, hy.1, hy.2, by show 1 ≤ 1 + u; omega, by show 1 + u ≤ 4; omega, ?_, ?_⟩
      · exact (by repeat (first | with_reducible assumption | with_reducible apply SrcAt.drewN | with_reducible apply SrcAt.drew | with_reducible apply SrcAt.alloc | (with_reducible refine SrcAt.setNew ?_ (by omega) _)))
      · exact (by repeat (first | with_reducible exact grown_refl _ _ | with_reducible assumption | with_reducible apply grownS_drewN | with_reducible apply grownS_drew | with_reducible apply grownS_alloc | (with_reducible refine grown_setNew ?_ (by first | omega | (simp; omega)) _) | with_reducible refine grown_trans ?_ (by with_reducible assumption)))
    | false =>
      obtain ⟨a0, a1, a2, a3, a4, f0, f1, f2, f3, f4⟩ := five_cells hb2
      obtain ⟨c0, c1, c2, c3, c4, d0, d1, d2, d3, d4⟩ := five_cells hq2
      go_wp2
      have hh := five_set hq2 (.int .i8 cx) (.int .i8 cy) (.int .i8 x) (.int .i8 y) (.int .i8 1)
      refine bodyPost_ret (v := .agg #[.int .i8 cx, .int .i8 cy, .int .i8 x, .int .i8 y, .int .i8 1]) (results_cell_row Tryz.results97 _ _ (w.heap.size + 1) 49 _ (0, 0) _ rfl hh Tryz.underlying49 rfl (by kernel_rfl)) rfl ⟨⟨cx, cy, x, y, 1⟩, rfl, rfl, rfl, hx.1, hx.2, hy.1, hy.2, by show (1 : Int) ≤ 1; omega, by show (1 : Int) ≤ 4; omega, ?_, ?_⟩
      · have hs8 := hs6.le (show k + 6 ≤ k + 8 by omega)
        exact (by repeat (first | with_reducible assumption | with_reducible apply SrcAt.drewN | with_reducible apply SrcAt.drew | with_reducible apply SrcAt.alloc | (with_reducible refine SrcAt.setNew ?_ (by omega) _)))
      · have hgA := grown_trans hWg hg2
        exact (by repeat (first | with_reducible exact grown_refl _ _ | with_reducible assumption | with_reducible apply grownS_drewN | with_reducible apply grownS_drew | with_reducible apply grownS_alloc | (with_reducible refine grown_setNew ?_ (by first | omega | (simp; omega)) _) | with_reducible refine grown_trans ?_ (by with_reducible assumption)))
end Go.Proofs.YtmeefmoblkiebaaGreat
/- Boards that are drawn row by row: plain law. -/
namespace Go.Proofs.YtmeefmoblkiebaaGreat
open Go.RowKit
set_option linter.unusedVariables false
set_option linter.unusedSimpArgs false
set_option maxHeartbeats 400000
set_option maxRecDepth 100000
structure DrI (wd hg y x : Int) (ps : List Pc) : Prop where
  ok : ∀ k (h : k < ps.length), ps[k].ok
  v : ps.all (fun p => vPc p && cIn wd hg p.at_) = true
  nd : (ps.map Pc.at_).Nodup
  lt : ∀ c ∈ ps.map Pc.at_, c.y < y ∨ (c.y = y ∧ c.x < x)
  len : (ps.length : Int) ≤ 6 * y + x
theorem DrI.nil (wd hg : Int) : DrI wd hg 0 0 [] := ⟨fun k h => absurd h (by simp), rfl, by simp, by simp, by simp⟩
theorem DrI.skip {wd hg y x : Int} {ps : List Pc} (h : DrI wd hg y x ps) : DrI wd hg y (x + 1) ps :=
  ⟨h.ok, h.v, h.nd, fun c hc => by have := h.lt c hc; omega, by have := h.len; omega⟩
theorem DrI.row {wd hg y x : Int} {ps : List Pc} (h : DrI wd hg y x ps) (hx : x ≤ 6) : DrI wd hg (y + 1) 0 ps :=
  ⟨h.ok, h.v, h.nd, fun c hc => by have := h.lt c hc; omega, by have := h.len; omega⟩
theorem DrI.push {wd hg y x : Int} {ps : List Pc} (h : DrI wd hg y x ps) (p : Pc) (ho : p.ok) (hv : vPc p = true) (hx : p.x = x) (hy : p.y = y) (h0 : 0 ≤ x) (h1 : x < wd) (h2 : 0 ≤ y) (h3 : y < hg) : DrI wd hg y (x + 1) (ps ++ [p]) := by
  refine ⟨?_, ?_, ?_, ?_, ?_⟩
  · intro k hk
    rw [List.getElem_append]
    split
    · exact h.ok k _
    · simpa using ho
  · rw [List.all_append, h.v]
    simp only [List.all_cons, List.all_nil, Bool.and_true, Bool.true_and, hv]
    simp only [cIn, inB, Pc.at_, hx, hy, Bool.and_eq_true, decide_eq_true_eq]
    omega
  · rw [List.map_append, List.nodup_append]
    refine ⟨h.nd, by simp, ?_⟩
    intro a ha b hb
    simp only [List.map_cons, List.map_nil, List.mem_singleton] at hb
    have := h.lt a ha
    intro hab
    rw [hab, hb] at this
    have e1 : p.at_.x = x := hx
    have e2 : p.at_.y = y := hy
    omega
  · intro c hc
    rw [List.map_append, List.mem_append] at hc
    rcases hc with hc | hc
    · have := h.lt c hc; omega
    · simp only [List.map_cons, List.map_nil, List.mem_singleton] at hc
      have e1 : p.at_.x = x := hx
      have e2 : p.at_.y = y := hy
      rw [hc]
      omega
  · rw [List.length_append]
    have := h.len
    simp only [List.length_cons, List.length_nil]
    omega
theorem DrI.vBd {wd hg y x : Int} {ps : List Pc} (h : DrI wd hg y x ps) (hw : 1 ≤ wd ∧ wd ≤ 24) (hh : 1 ≤ hg ∧ hg ≤ 24) (hy : 6 * y + x ≤ 200) : vBd ⟨wd, hg, ps⟩ = true := by
  have := h.len
  simp only [Go.Proofs.YtmeefmoblkiebaaGreat.vBd, inB, Bool.and_eq_true, decide_eq_true_eq]
  refine ⟨⟨⟨⟨by omega, by omega⟩, by omega⟩, h.v⟩, h.nd⟩
end Go.Proofs.YtmeefmoblkiebaaGreat
/- Contracts: a board that is drawn. -/
namespace Go.Proofs.YtmeefmoblkiebaaGreat
open Go.RowKit
set_option linter.unusedVariables false
set_option linter.unusedSimpArgs false
set_option maxHeartbeats 400000
set_option maxRecDepth 100000
theorem sl_newD (w : World) (cs : Array Value) (T : TypeId) (g : Nat) (hg : g = w.heap.size) : SlAt (g + 1) (w.alloc (.cells cs T)) (some ⟨g, 0, none⟩) cs.toList := by
  subst hg
  exact sl_new w cs T
theorem three_blk {w : World} {b : Nat} {x y z u : Value} {T : TypeId} (h : w.heap[b]? = some (.cells #[x, y, z] T (0, 0))) : (w.setCell ⟨b, 2, none⟩ u).heap[b]? = some (.cells #[x, y, u] T (0, 0)) := three_set2 h
theorem blk_kept {w w' : World} {b : Nat} {o : Obj} {row : Option Nat} (h : w.heap[b]? = some o) (hg : w.grownBy w' row) (hne : row ≠ some b) : w'.heap[b]? = some o := by
  rw [hg.block b (lt_of_block h) (fun e => hne e.symm)]
  exact h
theorem drawn_pc (P : Pc) {c : Ce} (h0 : (0 ≤ c.x ∧ c.x ≤ 23) ∧ 0 ≤ c.y ∧ c.y ≤ 23) (hx : P.x = c.x) (hy : P.y = c.y) (k0 : 0 ≤ P.k) (k1 : P.k ≤ 5) (t0 : 0 ≤ P.t) (t1 : P.t ≤ 3) (d0 : 1 ≤ P.d) (d1 : P.d ≤ 4) : P.ok ∧ vPc P = true := by
  obtain ⟨x, y, k, t, d⟩ := P
  simp only at *
  subst hx
  subst hy
  refine ⟨⟨⟨⟨by show -128 ≤ c.x; omega, by show c.x ≤ 127; omega⟩, ⟨by show -128 ≤ c.y; omega, by show c.y ≤ 127; omega⟩⟩, ⟨by show -128 ≤ k; omega, by show k ≤ 127; omega⟩, ⟨by show -128 ≤ t; omega, by show t ≤ 127; omega⟩, ⟨by show -128 ≤ d; omega, by show d ≤ 127; omega⟩⟩, ?_⟩
  simp [vPc, inB]
  omega
theorem infoPcD : (Tryz.prog.info? 49).map (fun i => (i.zero, i.size, i.bytes)) = some (some (.agg #[.int .i8 0, .int .i8 0, .int .i8 0, .int .i8 0, .int .i8 0]), 5, 5) := by kernel_rfl
/-- The board while it is drawn. -/
structure DrS (w wr : World) (p b wd hg : Nat) (code : List Int) (k : Nat) (v : Value) (ps : List Pc) : Prop where
  blk : wr.heap[b]? = some (.cells #[.int .i8 wd, .int .i8 hg, v] 27 (0, 0))
  own : wr.ownsRow (b + 1) 49 5 v ps.length (flat Pc.cells ps)
  src : SrcAt wr p code k
  grown : w.grownBy wr (some p)
theorem DrS.le {w wr : World} {p b wd hg : Nat} {code : List Int} {k k' : Nat} {v : Value} {ps : List Pc} (h : DrS w wr p b wd hg code k v ps) (hk : k ≤ k') : DrS w wr p b wd hg code k' v ps := ⟨h.blk, h.own, h.src.le hk, h.grown⟩
/-- A callee that draws. -/
theorem DrS.draw {w wr w' : World} {p b wd hg : Nat} {code : List Int} {k k' : Nat} {v : Value} {ps : List Pc} (h : DrS w wr p b wd hg code k v ps) (hs : SrcAt w' p code k') (hg' : wr.grownBy w' (some p)) (hp : p < b) : DrS w w' p b wd hg code k' v ps :=
  ⟨blk_kept h.blk hg' (fun e => by simp at e; omega), own_kept h.own hg' (fun q hq => by have := (h.own.lt q hq).1; intro e; simp at e; omega), hs, grown_trans h.grown hg'⟩
theorem DrS.alloc {w wr : World} {p b wd hg : Nat} {code : List Int} {k : Nat} {v : Value} {ps : List Pc} (h : DrS w wr p b wd hg code k v ps) (o : Obj) : DrS w (wr.alloc o) p b wd hg code k v ps :=
  ⟨blk_kept (row := none) h.blk (World.grownBy_alloc wr o none) (by simp), own_kept (row := none) h.own (World.grownBy_alloc wr o none) (fun q hq => by simp), h.src.alloc, grownS_alloc h.grown o⟩
theorem DrS.set {w wr : World} {p b wd hg q o : Nat} {code : List Int} {k : Nat} {v : Value} {ps : List Pc} (h : DrS w wr p b wd hg code k v ps) (hp : p < b) (hw : w.heap.size ≤ q) (hb : b < q) (hv : ∀ g, v.ownBlock = some g → g ≠ q) (u : Value) : DrS w (wr.setCell ⟨q, o, none⟩ u) p b wd hg code k v ps :=
  ⟨blk_kept h.blk (grown_set1 wr q o u) (fun e => by simp at e; omega), own_kept h.own (grown_set1 wr q o u) (fun g hg e => hv g hg (by simpa using e)), h.src.setNew (by omega) u, grown_setNew h.grown hw u⟩
theorem DrS.own_lt {w wr : World} {p b wd hg : Nat} {code : List Int} {k : Nat} {v : Value} {ps : List Pc} (h : DrS w wr p b wd hg code k v ps) : ∀ g, v.ownBlock = some g → g ≠ wr.heap.size := fun g hg e => by have := (h.own.lt g hg).2; omega
/-- The piece is put behind the row. -/
theorem DrS.push {w wr w6 : World} {p b wd hg : Nat} {code : List Int} {k : Nat} {v v' : Value} {ps : List Pc} {P : Pc} {o : Obj} (h : DrS w wr p b wd hg code k v ps) (hp : p < b) (hb : w.heap.size ≤ b) (hgrow : (wr.alloc o).grownBy w6 v.ownBlock) (hown : w6.ownsRow (b + 1) 49 5 v' (ps.length + 1) (flat Pc.cells ps ++ P.cells)) :
    DrS w (w6.setCell ⟨b, 2, none⟩ v') p b wd hg code k v' (ps ++ [P]) := by
  have hv : ∀ q, v.ownBlock = some q → b + 1 ≤ q := fun q hq => (h.own.lt q hq).1
  have h1 := h.alloc o
  have hb6 : w6.heap[b]? = _ := blk_kept h1.blk hgrow (fun e => by have := hv b e; omega)
  have hs6 : SrcAt w6 p code k := h1.src.grown hgrow (fun g e => by have := hv g e; omega)
  have hg6 : w.grownBy w6 (some p) := by
    cases hvb : v.ownBlock with
    | none => rw [hvb] at hgrow; exact grown_trans h1.grown ⟨hgrow.os, hgrow.tape, hgrow.output, hgrow.size, fun i hi _ => hgrow.block i hi (by simp)⟩
    | some q => rw [hvb] at hgrow; exact grown_new h1.grown hgrow (by have := hv q hvb; omega)
  have e : flat Pc.cells ps ++ P.cells = flat Pc.cells (ps ++ [P]) := by rw [flat_append]; simp [flat]
  rw [e] at hown
  refine ⟨three_set2 hb6, ?_, hs6.setNew hp v', grown_setNew hg6 hb v'⟩
  rw [List.length_append]
  exact own_kept hown (grown_set1 w6 b 2 v') (fun q hq e => by have := (hown.lt q hq).1; simp at e; omega)
theorem DrS.push_blk {w wr w6 : World} {p b wd hg : Nat} {code : List Int} {k : Nat} {v : Value} {ps : List Pc} {o : Obj} (h : DrS w wr p b wd hg code k v ps) (hgrow : (wr.alloc o).grownBy w6 v.ownBlock) :
    w6.heap[b]? = some (.cells #[.int .i8 wd, .int .i8 hg, v] 27 (0, 0)) :=
  blk_kept (h.alloc o).blk hgrow (fun e => by have := (h.own.lt b e).1; omega)
set_option maxHeartbeats 1600000 in
theorem l01Drawn_any (p : Nat) (code : List Int) (k : Nat) (w : World) (hs : SrcAt w p code k) (hc : BytesOk code) (hk : k ≤ 700000) :
    Calls Tryz.prog 41 #[.pointer (some ⟨p, 0, none⟩)] w fun e w' => ∃ (wd hg : Int) (v : Value), e = .returned (bdv wd hg v) ∧ ∃ (ps : List Pc), vBd ⟨wd, hg, ps⟩ = true ∧ (Bd.mk wd hg ps).ok ∧ ps.length ≤ 24 ∧ w'.ownsRow w.heap.size 49 5 v ps.length (flat Pc.cells ps) ∧ SrcAt w' p code (k + 1000) ∧ w.grownBy w' (some p) := by
  have hlt := hs.lt
  obtain ⟨i0, hi, hz0, hz1, hz2⟩ := info_parts infoPcD
  obtain ⟨W, hW⟩ : ∃ W, W = w.alloc (.cells #[.int .i8 0, .int .i8 0, .slice none 0 0] 27) := ⟨_, rfl⟩
  have hWs : w.heap.size < W.heap.size := by rw [hW]; simp
  have hWg : w.grownBy W (some p) := by rw [hW]; exact grownS_alloc (grown_refl _ _) _
  have hsW : SrcAt W p code k := by rw [hW]; exact hs.alloc
  have hWq : W.heap[w.heap.size]? = some (.cells #[.int .i8 0, .int .i8 0, .slice none 0 0] 27 (0, 0)) := by rw [hW]; exact heap_alloc_new _ _
  have HP := Lib.hid (fun w' j (h : SrcAt w' p code j) (hj : j ≤ 900000) (n : Int) (hn : n ≤ 1000000) => pick_any p code j w' n h hc hj hn)
  have HO := Lib.hid (fun w' j (h : SrcAt w' p code j) (hj : j ≤ 900000) (n : Int) (hn : n ≤ 1000000) => one_any p code j w' n h hc hj hn)
  have HD := Lib.hid (fun w' j (h : SrcAt w' p code j) (hj : j ≤ 800000) c (hco : Ce.ok c) => l01PieceDrawn_any p code j w' c h hc hj hco)
  have HWq := Lib.hid hWq
  have HWg := Lib.hid hWg
  go_enter Tryz.func41, Tryz.ntmps41
  go_wp2_with fail
  rw [← hW]
  clear hW hWq hWg
  refine (HP.out _ _ hsW (by omega) _ (by omega)).mono ?_
  rintro e w1 ⟨x, rfl, x0, x1, hs1, hg1⟩
  obtain ⟨wd, hwd, hwd1⟩ : ∃ wd : Nat, IntKind.i64.wrap (2 + x) = (wd : Int) ∧ 2 ≤ wd ∧ wd ≤ 6 := by
    have : IntKind.i64.wrap (2 + x) = 2 + x := wrap_i64' _ (by omega) (by omega)
    exact ⟨(2 + x).toNat, by omega, by omega, by omega⟩
  have hwd8 : IntKind.i8.wrap (wd : Int) = wd := by simp [IntKind.wrap, IntKind.bits, IntKind.signed]; omega
  go_wp2_with fail
  refine (HP.out _ _ hs1 (by omega) _ (by omega)).mono ?_
  rintro e w2 ⟨y, rfl, y0, y1, hs2, hg2⟩
  obtain ⟨hg, hhg, hhg1⟩ : ∃ hg : Nat, IntKind.i64.wrap (1 + y) = (hg : Int) ∧ 1 ≤ hg ∧ hg ≤ 4 := by
    have : IntKind.i64.wrap (1 + y) = 1 + y := wrap_i64' _ (by omega) (by omega)
    exact ⟨(1 + y).toNat, by omega, by omega, by omega⟩
  have hhg8 : IntKind.i8.wrap (hg : Int) = hg := by simp [IntKind.wrap, IntKind.bits, IntKind.signed]; omega
  have hg02 := grown_trans hg1 hg2
  have hz2 := hg02.size
  obtain ⟨b, hb⟩ : ∃ b, b = w2.heap.size := ⟨_, rfl⟩
  have DS : Hid (DrS W (w2.alloc (.cells #[.int .i8 wd, .int .i8 hg, .slice none 0 0] 27)) p b wd hg code (k + 4) (.slice none 0 0) []) := by
    subst hb
    refine Lib.hid ⟨heap_alloc_new _ _, World.ownsRow_nil _ _ _ _, hs2.alloc, grownS_alloc hg02 _⟩
  have hp : p < b := by have := hs2.lt; omega
  go_wp2_with fail
  rw [← hb]
  clear hwd hhg hwd8 hhg8 hs1 hs2 hg1 hg2 hg02 x0 x1 y0 y1
  have hWb : W.heap.size ≤ b := by omega
  go_loopw [4] (fun i wr => ∃ (n : Nat) (v : Value) (ps : List Pc), n ≤ hg ∧ i = .int .i8 (n : Int) ∧ DrI wd hg n 0 ps ∧ DrS W wr p b wd hg code (k + 4 + n * 90) v ps) (fun i _ => hg - (intOf i).toNat)
  case atStart => exact ⟨0, _, [], by omega, rfl, DrI.nil _ _, DS.out⟩
  case round =>
    clear DS hb hz2
    obtain ⟨n, v, ps, hn, rfl, hI, hS⟩ := hrel
    obtain ⟨W1, hW1⟩ : ∃ W1, W1 = wr := ⟨_, rfl⟩
    subst hW1
    obtain ⟨c0, c1, c2, cf⟩ := three_cells hS.blk
    by_cases hlt1 : (n : Int) < hg
    · have HI := Lib.hid hI
      have HS := Lib.hid hS
      clear hI hS
      go_wp2_with fail
      go_loopw [5] (fun i wr => ∃ (m : Nat) (v : Value) (ps : List Pc), m ≤ wd ∧ i = .int .i8 (m : Int) ∧ DrI wd hg n m ps ∧ DrS W wr p b wd hg code (k + 4 + n * 90 + m * 14) v ps) (fun i _ => wd - (intOf i).toNat)
      case atStart => exact ⟨0, _, _, by omega, rfl, HI.out, HS.out⟩
      case round =>
        clear c0 c1 c2 cf HI HS
        obtain ⟨m, v, ps, hm, rfl, hI, hS⟩ := hrel
        obtain ⟨c0, c1, c2, cf⟩ := three_cells hS.blk
        have HI := Lib.hid hI
        have HS := Lib.hid hS
        have hs := hS.src
        clear hI hS
        by_cases hlt2 : (m : Int) < wd
        · go_wp2_with fail
          refine (HO.out _ _ hs (by omega) _ (by omega)).mono ?_
          rintro e w3 ⟨v1, rfl, hs3, hg3⟩
          have HS3 := Lib.hid (HS.out.draw hs3 hg3 hp)
          clear hg3 c0 c1 c2 cf hs
          cases v1 with
          | true =>
            go_wp2_with fail
            go_roundw
            case rel => exact ⟨m + 1, v, ps, by omega, by go_num, by rw [show ((m + 1 : Nat) : Int) = (m : Int) + 1 by omega]; exact HI.out.skip, HS3.out.le (by omega)⟩
            case measure => simp [intOf]; omega
          | false =>
            go_wp2_with fail
            refine (HD.out _ _ hs3 (by omega) ⟨m, n⟩ ⟨⟨by show (-128 : Int) ≤ m; omega, by show (m : Int) ≤ 127; omega⟩, ⟨by show (-128 : Int) ≤ n; omega, by show (n : Int) ≤ 127; omega⟩⟩).mono ?_
            rintro e w4 ⟨⟨px, py, pk, pt, pd⟩, rfl, hPx, hPy, k0, k1, t0, t1, d0, d1, hs4, hg4⟩
            simp only at hPx hPy k0 k1 t0 t1 d0 d1
            subst hPx
            subst hPy
            have HS4 := Lib.hid (HS3.out.draw hs4 hg4 hp)
            have hqb : b < w4.heap.size := lt_of_block HS4.out.blk
            have hqv := HS4.out.own_lt
            obtain ⟨q, hq⟩ : ∃ q, q = w4.heap.size := ⟨_, rfl⟩
            obtain ⟨w5, hw5⟩ : ∃ w5, w5 = w4.alloc (.cells #[.int .i8 m, .int .i8 n, .int .i8 pk, .int .i8 pt, .int .i8 pd] 49) := ⟨_, rfl⟩
            have HS5 := Lib.hid (HS4.out.alloc (.cells #[.int .i8 m, .int .i8 n, .int .i8 pk, .int .i8 pt, .int .i8 pd] 49))
            have hq5 : w5.heap[q]? = some (.cells #[.int .i8 m, .int .i8 n, .int .i8 pk, .int .i8 pt, .int .i8 pd] 49 (0, 0)) := by rw [hw5, hq]; exact heap_alloc_new _ _
            rw [← hw5] at HS5
            rw [← hq] at hqv hqb
            have HQV := Lib.hid hqv
            have HQ5 := Lib.hid hq5
            clear hqv hs4 hg4 hs3 HS3 HS4 hq5
            go_wp2_with fail
            rw [← hw5, ← hq]
            clear hw5 hq
            have hs5 := HS5.out.src
            refine (HO.out _ _ hs5 (by omega) _ (by omega)).mono ?_
            rintro e w6 ⟨v2, rfl, hs6, hg6⟩
            have HS6 := Lib.hid (HS5.out.draw hs6 hg6 hp)
            have hq6 := blk_kept HQ5.out hg6 (by simp; omega)
            clear hg6 hs5 HS5 HQ5
            have hWq : W.heap.size ≤ q := by omega
            cases v2 with
            | true =>
              obtain ⟨a0, a1, a2, a3, a4, f0, f1, f2, f3, f4⟩ := five_cells hq6
              have HS7 := Lib.hid (HS6.out.set (o := 2) hp hWq hqb HQV.out (.int .i8 0))
              have hq7 : (w6.setCell ⟨q, 2, none⟩ (.int .i8 0)).heap[q]? = some (.cells #[.int .i8 m, .int .i8 n, .int .i8 0, .int .i8 pt, .int .i8 pd] 49 (0, 0)) := set_block hq6 2 (.int .i8 0)
              have HQ7 := Lib.hid hq7
              clear hq7 hq6
              go_wp2_with fail
              have hs7 := HS7.out.src
              refine (HP.out _ _ hs7 (by omega) _ (by omega)).mono ?_
              rintro e w8 ⟨t, rfl, tt0, tt1, hs8, hg8⟩
              have et : IntKind.i8.wrap t = t := by simp [IntKind.wrap, IntKind.bits, IntKind.signed]; omega
              have HS8 := Lib.hid (HS7.out.draw hs8 hg8 hp)
              have hq8 := blk_kept HQ7.out hg8 (by simp; omega)
              clear a0 a1 a2 a3 a4 f0 f1 f2 f3 f4 hs6 hs7 hg8 HS7 HQ7
              obtain ⟨a0, a1, a2, a3, a4, f0, f1, f2, f3, f4⟩ := five_cells hq8
              obtain ⟨c0, c1, c2, cf⟩ := three_cells HS8.out.blk
              have HS9 := Lib.hid (HS8.out.set (o := 3) hp hWq hqb HQV.out (.int .i8 t))
              have HOK := Lib.hid (drawn_pc ⟨m, n, 0, t, pd⟩ (c := ⟨m, n⟩) (by show (0 ≤ (m : Int) ∧ (m : Int) ≤ 23) ∧ 0 ≤ (n : Int) ∧ (n : Int) ≤ 23; omega) rfl rfl (by show (0 : Int) ≤ 0; omega) (by show (0 : Int) ≤ 5; omega) (by show 0 ≤ t; omega) (by show t ≤ 3; omega) d0 d1)
              have hzq := lt_of_block hq8
              clear hq8 hs8 HS8
              have hn24 : ps.length ≤ 24 := by have := HI.out.len; omega
              have HOWN := Lib.hid HS9.out.own
              go_wp2_with (at_builtin; go_must (refine wpList_append_sl _ rfl _ _ 25 rfl (b + 1) 49 i0 (.agg #[.int .i8 0, .int .i8 0, .int .i8 0, .int .i8 0, .int .i8 0]) 5 5 Tryz.underlying25 hi hz0 hz1 hz2 rfl (by decide) _ _ _ rfl (own_below HOWN.out (bl_alloc (Below.refl _ _)) (Nat.le_refl _)) (some ⟨_, 0, none⟩) 1 1 [.int .i8 m, .int .i8 n, .int .i8 0, .int .i8 t, .int .i8 pd] rfl (sl_newD _ #[.int .i8 m, .int .i8 n, .int .i8 0, .int .i8 t, .int .i8 pd] _ _ (by simp)) rfl (Pc.one (⟨m, n, 0, t, pd⟩ : Pc)) (by unfold maxLen; omega) (by omega) (by simp; omega) ?_); intro v3 wz hown3 hgrow; have hbk := HS9.out.push_blk hgrow; obtain ⟨e0, e1, e2, ef⟩ := three_cells hbk; obtain ⟨a3, cap3, rfl, -⟩ := own_at hown3)
              go_roundw
              case rel => exact ⟨m + 1, _, ps ++ [(⟨m, n, 0, t, pd⟩ : Pc)], by omega, by go_num, by rw [show ((m + 1 : Nat) : Int) = (m : Int) + 1 by omega]; exact HI.out.push (⟨m, n, 0, t, pd⟩ : Pc) HOK.out.1 HOK.out.2 rfl rfl (by omega) hlt2 (by omega) hlt1, (HS9.out.push (P := (⟨m, n, 0, t, pd⟩ : Pc)) hp hWb hgrow hown3).le (by omega)⟩
              case measure => simp [intOf]; omega
            | false =>
              obtain ⟨a0, a1, a2, a3, a4, f0, f1, f2, f3, f4⟩ := five_cells hq6
              obtain ⟨c0, c1, c2, cf⟩ := three_cells HS6.out.blk
              have HS9 := HS6
              have HOK := Lib.hid (drawn_pc ⟨m, n, pk, pt, pd⟩ (c := ⟨m, n⟩) (by show (0 ≤ (m : Int) ∧ (m : Int) ≤ 23) ∧ 0 ≤ (n : Int) ∧ (n : Int) ≤ 23; omega) rfl rfl k0 k1 t0 t1 d0 d1)
              have hzq := lt_of_block hq6
              clear hq6 hs6 HS6
              have hn24 : ps.length ≤ 24 := by have := HI.out.len; omega
              have HOWN := Lib.hid HS9.out.own
              go_wp2_with (at_builtin; go_must (refine wpList_append_sl _ rfl _ _ 25 rfl (b + 1) 49 i0 (.agg #[.int .i8 0, .int .i8 0, .int .i8 0, .int .i8 0, .int .i8 0]) 5 5 Tryz.underlying25 hi hz0 hz1 hz2 rfl (by decide) _ _ _ rfl (own_below HOWN.out (bl_alloc (Below.refl _ _)) (Nat.le_refl _)) (some ⟨_, 0, none⟩) 1 1 [.int .i8 m, .int .i8 n, .int .i8 pk, .int .i8 pt, .int .i8 pd] rfl (sl_newD _ #[.int .i8 m, .int .i8 n, .int .i8 pk, .int .i8 pt, .int .i8 pd] _ _ (by simp)) rfl (Pc.one (⟨m, n, pk, pt, pd⟩ : Pc)) (by unfold maxLen; omega) (by omega) (by simp; omega) ?_); intro v3 wz hown3 hgrow; have hbk := HS9.out.push_blk hgrow; obtain ⟨e0, e1, e2, ef⟩ := three_cells hbk; obtain ⟨a3, cap3, rfl, -⟩ := own_at hown3)
              go_roundw
              case rel => exact ⟨m + 1, _, ps ++ [(⟨m, n, pk, pt, pd⟩ : Pc)], by omega, by go_num, by rw [show ((m + 1 : Nat) : Int) = (m : Int) + 1 by omega]; exact HI.out.push (⟨m, n, pk, pt, pd⟩ : Pc) HOK.out.1 HOK.out.2 rfl rfl (by omega) hlt2 (by omega) hlt1, (HS9.out.push (P := (⟨m, n, pk, pt, pd⟩ : Pc)) hp hWb hgrow hown3).le (by omega)⟩
              case measure => simp [intOf]; omega
        · have hme : m = wd := by omega
          go_wp2_with fail
          go_roundw
          case rel => exact ⟨n + 1, v, ps, by omega, by go_num, by rw [show ((n + 1 : Nat) : Int) = (n : Int) + 1 by omega]; exact HI.out.row (by omega), HS.out.le (by omega)⟩
          case measure => simp [intOf]; omega
    · have hne : n = hg := by omega
      obtain ⟨av, capv, hve, -⟩ := own_at hS.own
      subst hve
      have hq := blk_kept HWq.out hS.grown (by simp; omega)
      obtain ⟨d0, d1, d2, df⟩ := three_cells hq
      go_wp2_with fail
      have hh := set_block (set_block (set_block hq 0 (.int .i8 wd)) 1 (.int .i8 hg)) 2 (.slice av ps.length capv)
      refine bodyPost_ret (v := bdv wd hg (.slice av ps.length capv)) (results_cell_row Tryz.results41 _ _ w.heap.size 27 _ (0, 0) _ rfl hh Tryz.underlying27 rfl (by kernel_rfl)) rfl ⟨(wd : Int), (hg : Int), .slice av ps.length capv, rfl, ps, hI.vBd (by omega) (by omega) (by omega), ⟨⟨by show (-128 : Int) ≤ wd; omega, by show (wd : Int) ≤ 127; omega⟩, ⟨by show (-128 : Int) ≤ hg; omega, by show (hg : Int) ≤ 127; omega⟩, hI.ok⟩, by have := hI.len; omega, ?_, ?_, ?_⟩
      · have hown := own_mono (base := w.heap.size) hS.own (by omega)
        have hk : ∀ q, (Value.slice av ps.length capv).ownBlock = some q → some q ≠ some w.heap.size := fun q hq e => by have := (hS.own.lt q hq).1; simp at e; omega
        exact own_kept (own_kept (own_kept hown (grown_set1 _ _ 0 _) hk) (grown_set1 _ _ 1 _) hk) (grown_set1 _ _ 2 _) hk
      · have hs9 := hS.src.le (show k + 4 + n * 90 ≤ k + 1000 by omega)
        exact (by repeat (first | with_reducible assumption | with_reducible apply SrcAt.drewN | with_reducible apply SrcAt.drew | with_reducible apply SrcAt.alloc | (with_reducible refine SrcAt.setNew ?_ (by omega) _)))
      · have hgA := grown_trans HWg.out hS.grown
        exact (by repeat (first | with_reducible exact grown_refl _ _ | with_reducible assumption | with_reducible apply grownS_drewN | with_reducible apply grownS_drew | with_reducible apply grownS_alloc | (with_reducible refine grown_setNew ?_ (by first | omega | (simp; omega)) _) | with_reducible refine grown_trans ?_ (by with_reducible assumption)))
end Go.Proofs.YtmeefmoblkiebaaGreat
/- Contracts: pushes that are drawn; the board and the pushes of the laws. -/
namespace Go.Proofs.YtmeefmoblkiebaaGreat
open Go.RowKit
set_option linter.unusedVariables false
set_option linter.unusedSimpArgs false
set_option maxHeartbeats 400000
set_option maxRecDepth 100000
theorem infoPuD : (Tryz.prog.info? 89).map (fun i => (i.zero, i.size, i.bytes)) = some (some (.agg #[.int .i8 0, .int .i8 0, .int .i8 0, .int .i16 0]), 4, 6) := by kernel_rfl
theorem fnd_pc (ps : List Pc) (j : Nat) (hj : j < ps.length) : 0 ≤ fnd ⟨ps[j].x, ps[j].y⟩ ps := by
  unfold fnd
  cases hf : ps.findIdx? (fun q => decide (q.at_ = (⟨ps[j].x, ps[j].y⟩ : Ce))) with
  | none =>
    rw [List.findIdx?_eq_none_iff] at hf
    have := hf ps[j] (List.getElem_mem hj)
    simp [Pc.at_] at this
  | some k => exact Int.natCast_nonneg k
/-- A board whose memory lies below the source. -/
def BdP (w : World) (p b0 : Nat) (l : Bd) : Prop := b0 < p ∧ p < w.heap.size ∧ ∃ a cap, BdAt w b0 l.wd l.hg (.slice a l.ps.length cap) ∧ SlAt p w a (flat Pc.cells l.ps)
theorem BdP.step {w w' : World} {p b0 : Nat} {l : Bd} (h : BdP w p b0 l) (hg : w.grownBy w' (some p)) : BdP w' p b0 l := by
  obtain ⟨h1, h2, a, cap, h3, h4⟩ := h
  refine ⟨h1, Nat.lt_of_lt_of_le h2 hg.size, a, cap, ?_, h4.grownP (p := p) hg (by omega) (fun g e => by cases e; exact Nat.le_refl _)⟩
  have e : ∀ o, w'.cell? ⟨b0, o, none⟩ = w.cell? ⟨b0, o, none⟩ := fun o => World.cell?_of_block (a := ⟨b0, o, none⟩) (hg.block b0 (by omega) (fun e => by simp at e; omega))
  unfold BdAt at *
  rw [e, e, e]
  exact h3
/-- A push at a piece of the board. -/
def PuD (l : Bd) (q : Pu) : Prop := q.ok ∧ plainPu q = true ∧ 0 ≤ fnd ⟨q.x, q.y⟩ l.ps
theorem PuD.mk' {l : Bd} (hl : l.ok) {j : Nat} (hj : j < l.ps.length) {s t : Int} (s0 : 0 ≤ s) (s1 : s ≤ 3) (t0 : 0 ≤ t) (t1 : t ≤ 5) : PuD l ⟨l.ps[j].x, l.ps[j].y, s, t⟩ := by
  refine ⟨⟨(hl.2.2 j hj).1.1, (hl.2.2 j hj).1.2, ⟨by show -128 ≤ s; omega, by show s ≤ 127; omega⟩, ⟨by show -32768 ≤ t; omega, by show t ≤ 32767; omega⟩⟩, ?_, fnd_pc _ _ hj⟩
  simp [plainPu, inB]
  omega
theorem PuD.vPus {l : Bd} {qs : List Pu} (h : ∀ q ∈ qs, PuD l q) (hn : qs.length ≤ 20) : Go.Proofs.YtmeefmoblkiebaaGreat.vPus l qs = true ∧ PusOk qs := by
  refine ⟨?_, fun k hk => (h _ (List.getElem_mem hk)).1⟩
  unfold Go.Proofs.YtmeefmoblkiebaaGreat.vPus
  simp only [Bool.and_eq_true, decide_eq_true_eq, List.all_eq_true]
  exact ⟨⟨hn, fun q hq => (h q hq).2.1⟩, fun q hq => (h q hq).2.2⟩
theorem four_cells {w : World} {b : Nat} {v0 v1 v2 v3 : Value} {T : TypeId} (h : w.heap[b]? = some (.cells #[v0, v1, v2, v3] T (0, 0))) :
    w.cell? ⟨b, 0, none⟩ = some v0 ∧ w.cell? ⟨b, 1, none⟩ = some v1 ∧ w.cell? ⟨b, 2, none⟩ = some v2 ∧ w.cell? ⟨b, 3, none⟩ = some v3 ∧
    w.frozen? ⟨b, 0, none⟩ = false ∧ w.frozen? ⟨b, 1, none⟩ = false ∧ w.frozen? ⟨b, 2, none⟩ = false ∧ w.frozen? ⟨b, 3, none⟩ = false := by
  refine ⟨by simp [World.cell?, h], by simp [World.cell?, h], by simp [World.cell?, h], by simp [World.cell?, h], by simp [World.frozen?, h], by simp [World.frozen?, h], by simp [World.frozen?, h], by simp [World.frozen?, h]⟩
theorem four_set {w : World} {b : Nat} {v0 v1 v2 v3 : Value} {T : TypeId} (h : w.heap[b]? = some (.cells #[v0, v1, v2, v3] T (0, 0))) (u0 u1 u2 u3 : Value) :
    ((((w.setCell ⟨b, 0, none⟩ u0).setCell ⟨b, 1, none⟩ u1).setCell ⟨b, 2, none⟩ u2).setCell ⟨b, 3, none⟩ u3).heap[b]? = some (.cells #[u0, u1, u2, u3] T (0, 0)) :=
  set_block (set_block (set_block (set_block h 0 u0) 1 u1) 2 u2) 3 u3
/-- The pushes while they are drawn. -/
structure PuS (w wr : World) (p b0 : Nat) (l : Bd) (code : List Int) (k : Nat) (v : Value) (qs : List Pu) : Prop where
  bd : BdP wr p b0 l
  own : wr.ownsRow w.heap.size 89 4 v qs.length (flat Pu.cells qs)
  src : SrcAt wr p code k
  grown : w.grownBy wr (some p)
  pu : ∀ q ∈ qs, PuD l q
theorem PuS.le {w wr : World} {p b0 : Nat} {l : Bd} {code : List Int} {k k' : Nat} {v : Value} {qs : List Pu} (h : PuS w wr p b0 l code k v qs) (hk : k ≤ k') : PuS w wr p b0 l code k' v qs := ⟨h.bd, h.own, h.src.le hk, h.grown, h.pu⟩
theorem PuS.draw {w wr w' : World} {p b0 : Nat} {l : Bd} {code : List Int} {k k' : Nat} {v : Value} {qs : List Pu} (h : PuS w wr p b0 l code k v qs) (hp : p < w.heap.size) (hs : SrcAt w' p code k') (hg' : wr.grownBy w' (some p)) : PuS w w' p b0 l code k' v qs :=
  ⟨h.bd.step hg', own_kept h.own hg' (fun q hq e => by have := (h.own.lt q hq).1; simp at e; omega), hs, grown_trans h.grown hg', h.pu⟩
theorem PuS.alloc {w wr : World} {p b0 : Nat} {l : Bd} {code : List Int} {k : Nat} {v : Value} {qs : List Pu} (h : PuS w wr p b0 l code k v qs) (hp : p < w.heap.size) (o : Obj) : PuS w (wr.alloc o) p b0 l code k v qs :=
  h.draw hp h.src.alloc (World.grownBy_alloc wr o (some p))
theorem BdP.set {w : World} {p b0 q o : Nat} {l : Bd} (h : BdP w p b0 l) (hq : p < q) (u : Value) : BdP (w.setCell ⟨q, o, none⟩ u) p b0 l := by
  obtain ⟨h1, h2, a, cap, h3, h4⟩ := h
  have hg := grown_set1 w q o u
  refine ⟨h1, by simpa using h2, a, cap, ?_, h4.grownP (p := p) hg (by omega) (fun g e => by cases e; omega)⟩
  have e : ∀ i, (w.setCell ⟨q, o, none⟩ u).cell? ⟨b0, i, none⟩ = w.cell? ⟨b0, i, none⟩ := fun i => World.cell?_of_block (a := ⟨b0, i, none⟩) (hg.block b0 (by omega) (fun e => by simp at e; omega))
  unfold BdAt at *
  rw [e, e, e]
  exact h3
theorem PuS.set {w wr : World} {p b0 q o : Nat} {l : Bd} {code : List Int} {k : Nat} {v : Value} {qs : List Pu} (h : PuS w wr p b0 l code k v qs) (hp : p < w.heap.size) (hw : w.heap.size ≤ q) (hv : ∀ g, v.ownBlock = some g → g ≠ q) (u : Value) : PuS w (wr.setCell ⟨q, o, none⟩ u) p b0 l code k v qs :=
  ⟨h.bd.set (by omega) u, own_kept h.own (grown_set1 wr q o u) (fun g hg e => hv g hg (by simpa using e)), h.src.setNew (by omega) u, grown_setNew h.grown hw u, h.pu⟩
theorem PuS.own_lt {w wr : World} {p b0 : Nat} {l : Bd} {code : List Int} {k : Nat} {v : Value} {qs : List Pu} (h : PuS w wr p b0 l code k v qs) : ∀ g, v.ownBlock = some g → g < wr.heap.size := fun g hg => (h.own.lt g hg).2
theorem PuS.push {w wr w6 : World} {p b0 : Nat} {l : Bd} {code : List Int} {k : Nat} {v v' : Value} {qs : List Pu} {q : Pu} {o : Obj} (h : PuS w wr p b0 l code k v qs) (hp : p < w.heap.size) (hgrow : (wr.alloc o).grownBy w6 v.ownBlock) (hq : PuD l q) (hown : w6.ownsRow w.heap.size 89 4 v' (qs.length + 1) (flat Pu.cells qs ++ q.cells)) :
    PuS w w6 p b0 l code k v' (qs ++ [q]) := by
  have hv : ∀ q, v.ownBlock = some q → w.heap.size ≤ q := fun q hq => (h.own.lt q hq).1
  have h1 := h.alloc hp o
  have hs6 : SrcAt w6 p code k := h1.src.grown hgrow (fun g e => by have := hv g e; omega)
  have hg6 : w.grownBy w6 (some p) := by
    cases hvb : v.ownBlock with
    | none => rw [hvb] at hgrow; exact grown_trans h1.grown ⟨hgrow.os, hgrow.tape, hgrow.output, hgrow.size, fun i hi _ => hgrow.block i hi (by simp)⟩
    | some q => rw [hvb] at hgrow; exact grown_new h1.grown hgrow (by have := hv q hvb; omega)
  have hb6 : BdP w6 p b0 l := by
    obtain ⟨h1', h2', a, cap, h3, h4⟩ := h1.bd
    refine ⟨h1', Nat.lt_of_lt_of_le h2' hgrow.size, a, cap, ?_, h4.grownP (p := p) hgrow (by omega) (fun g e => by have := hv g e; omega)⟩
    have e : ∀ i, w6.cell? ⟨b0, i, none⟩ = (wr.alloc o).cell? ⟨b0, i, none⟩ := fun i => World.cell?_of_block (a := ⟨b0, i, none⟩) (hgrow.block b0 (by omega) (fun e => by have := hv b0 e.symm; omega))
    unfold BdAt at *
    rw [e, e, e]
    exact h3
  have e : flat Pu.cells qs ++ q.cells = flat Pu.cells (qs ++ [q]) := by rw [flat_append]; simp [flat]
  rw [e] at hown
  refine ⟨hb6, by rw [List.length_append]; exact hown, hs6, hg6, ?_⟩
  intro r hr
  rw [List.mem_append, List.mem_singleton] at hr
  rcases hr with hr | rfl
  · exact h.pu r hr
  · exact hq
theorem ext_p {w w' : World} {p : Nat} (h : w.grownBy w' (some p)) (hp : p ≤ w.heap.size) : w.grownBy w' (some p) ∧ ∀ b o, b < p → w'.cell? ⟨b, o, none⟩ = w.cell? ⟨b, o, none⟩ :=
  ⟨h, fun b o hb => World.cell?_of_block (a := ⟨b, o, none⟩) (h.block b (by omega) (fun e => by simp at e; omega))⟩
theorem fin_push {W wx : World} {p k b j : Nat} {code : List Int} {ps : List Pc} {T : TypeId} (hj : j < ps.length) (h : wx.heap[b]? = some (.cells #[.int .i8 ps[j].x, .int .i8 ps[j].y, .int .i8 0, .int .i16 0] T (0, 0))) (hb : W.heap.size ≤ b) (hs : SrcAt wx p code k) (hg : W.grownBy wx (some p)) :
    ∃ (b' : Nat) (j : Nat) (hj : j < ps.length), Value.pointer (some ⟨b, 0, none⟩) = .pointer (some ⟨b', 0, none⟩) ∧ W.heap.size ≤ b' ∧ wx.heap[b']? = some (.cells #[.int .i8 ps[j].x, .int .i8 ps[j].y, .int .i8 0, .int .i16 0] T (0, 0)) ∧ SrcAt wx p code k ∧ W.grownBy wx (some p) :=
  ⟨b, j, hj, rfl, hb, h, hs, hg⟩
set_option maxHeartbeats 1600000 in
theorem l02Drawn_any (p b0 : Nat) (l : Bd) (hl : l.ok) (hn : l.ps.length ≤ 1000) (code : List Int) (k : Nat) (w : World) (hs : SrcAt w p code k) (hB : BdP w p b0 l) (hc : BytesOk code) (hk : k ≤ 700000) :
    Calls Tryz.prog 43 #[.pointer (some ⟨p, 0, none⟩), .pointer (some ⟨b0, 0, none⟩)] w fun e w' => ∃ (v : Value), e = .returned v ∧ ∃ qs : List Pu, (∀ q ∈ qs, PuD l q) ∧ qs.length ≤ 3 ∧ w'.ownsRow w.heap.size 89 4 v qs.length (flat Pu.cells qs) ∧ SrcAt w' p code (k + 100) ∧ w.grownBy w' (some p) := by
  have hlt := hs.lt
  obtain ⟨i0, hi, hz0, hz1, hz2⟩ := info_parts infoPuD
  have HP := Lib.hid (fun w' j (h : SrcAt w' p code j) (hj : j ≤ 900000) (n : Int) (hn : n ≤ 1000000) => pick_any p code j w' n h hc hj hn)
  have S0 : Hid (PuS w (w.alloc (.cells #[] 89)) p b0 l code k (.slice (some ⟨w.heap.size, 0, none⟩) 0 0) []) :=
    Lib.hid ⟨hB.step (World.grownBy_alloc _ _ _), World.ownsRow_made (e := 89) (size := 4) w #[] 0 (Nat.le_refl _) (by simp [maxLen]) rfl, hs.alloc, World.grownBy_alloc _ _ _, by simp⟩
  obtain ⟨ba, bp, a, cap, hbd, hsl⟩ := S0.out.bd
  unfold BdAt at hbd
  obtain ⟨c0, c1, c2⟩ := hbd
  clear hsl
  by_cases h0 : l.ps.length = 0
  · have g0 : ((l.ps.length : Int) == 0) = true := by simp [h0]
    have H0 := Lib.hid h0
    clear h0
    go_enter Tryz.func43, Tryz.ntmps43
    go_wp2
    go_ret
    exact ⟨_, rfl, [], by simp, by simp, S0.out.own, S0.out.src.le (by omega), S0.out.grown⟩
  · have g0 : ((l.ps.length : Int) == 0) = false := beq_false_of_ne (by omega)
    have hn1 : 1 ≤ l.ps.length := by omega
    clear h0
    go_enter Tryz.func43, Tryz.ntmps43
    go_wp2_with fail
    refine (HP.out _ _ S0.out.src (by omega) _ (by omega)).mono ?_
    rintro e w1 ⟨x, rfl, x0, x1, hs1, hg1⟩
    have S1 := Lib.hid (S0.out.draw hlt hs1 hg1)
    obtain ⟨m0, hm0⟩ : ∃ m0 : Nat, x = (m0 : Int) := ⟨x.toNat, by omega⟩
    subst hm0
    clear c0 c1 c2 S0 hg1 hs1 g0
    go_wp2_with fail
    go_loopw [5, 6] (fun v i wr => ∃ (m : Nat) (qs : List Pu), m ≤ 3 ∧ qs.length + m ≤ 3 ∧ i = .int .i64 (m : Int) ∧ PuS w wr p b0 l code (k + 2 + (3 - m) * 6) v qs) (fun _ i _ => (intOf i).toNat)
    case atStart => exact ⟨m0, [], by omega, by simp; omega, rfl, S1.out.le (by omega)⟩
    case round =>
      clear S1
      obtain ⟨m, qs, hm, hqm, rfl, hS⟩ := hrel
      obtain ⟨W1, hW1⟩ : ∃ W1, W1 = wr := ⟨_, rfl⟩
      subst hW1
      obtain ⟨ba, bp, a, cap, hbd, hsl⟩ := hS.bd
      unfold BdAt at hbd
      obtain ⟨c0, c1, c2⟩ := hbd
      have hs := hS.src
      have HS := Lib.hid hS
      obtain ⟨rb, ro, rfl, hrb, HGET⟩ : ∃ rb ro, a = some ⟨rb, ro, none⟩ ∧ rb < p ∧ Hid (∀ j (hj : j < l.ps.length), PcAt W1 rb (ro + j * 5) l.ps[j]) := by
        obtain ⟨rb, ro, rfl, hrb, -⟩ := pcs_get hsl (k := 0) (by omega)
        refine ⟨rb, ro, rfl, hrb, Lib.hid (fun j hj => ?_)⟩
        obtain ⟨rb', ro', he, -, hat⟩ := pcs_get hsl hj
        cases he
        exact hat
      clear hS hsl
      by_cases hm1 : (m : Int) > 0
      · have hlW : w.heap.size ≤ W1.heap.size := HS.out.grown.size
        have hpW : p < W1.heap.size := by omega
        have hcl : l.ps.length ≤ 1000 := hn
        go_wp2_with fail
        go_cut [7] from 18 to 48 (fun s7 wx => ∃ (b : Nat) (j : Nat) (hj : j < l.ps.length), s7 = .pointer (some ⟨b, 0, none⟩) ∧ W1.heap.size ≤ b ∧ wx.heap[b]? = some (.cells #[.int .i8 l.ps[j].x, .int .i8 l.ps[j].y, .int .i8 0, .int .i16 0] 89 (0, 0)) ∧ SrcAt wx p code (k + 2 + (3 - m) * 6 + 2) ∧ W1.grownBy wx (some p))
        case first =>
          go_region_held3 (fun w' => W1.grownBy w' (some p) ∧ ∀ b o, b < p → w'.cell? ⟨b, o, none⟩ = W1.cell? ⟨b, o, none⟩) ((refine ext_p ?_ (by omega); exact (by repeat (first | with_reducible exact grown_refl _ _ | with_reducible assumption | with_reducible apply grownS_drewN | with_reducible apply grownS_drew | with_reducible apply grownS_alloc | (with_reducible refine grown_setNew ?_ (by first | omega | (simp; omega)) _) | with_reducible refine grown_trans ?_ (by with_reducible assumption))))) (first | (go_at_call 67; refine (HP.out _ _ (by repeat (first | with_reducible assumption | with_reducible apply SrcAt.drewN | with_reducible apply SrcAt.drew | with_reducible apply SrcAt.alloc | (with_reducible refine SrcAt.setNew ?_ (by omega) _))) (by omega) _ (by omega)).mono ?_; rintro e w2 ⟨u, rfl, u0, u1, hs2, hg2⟩; have hp2 := hs2.lt; obtain ⟨j, hj, hj2⟩ : ∃ j : Nat, u = (j : Int) ∧ j < l.ps.length := ⟨u.toNat, by omega, by omega⟩; subst hj; have hj3 : (j : Int) < (l.ps.length : Int) := (by omega); obtain ⟨q0, q1, -⟩ := HGET.out j hj2; (try (have hbk := Lib.hid (alloc_keptD hg2 hpW); obtain ⟨y0, y1, y2, y3, z0, z1, z2, z3⟩ := four_cells hbk.out)); have hz1 := hg2.size; (try simp [Nat.succ_le_iff] at hz1)))
          all_goals
            go_wp2_with fail
            go_meet
            with_reducible apply fin_push hj2
            · first | with_reducible exact heap_alloc_new _ _ | with_reducible exact four_set hbk.out _ _ _ _
            · omega
            · exact (by repeat (first | with_reducible assumption | with_reducible apply SrcAt.drewN | with_reducible apply SrcAt.drew | with_reducible apply SrcAt.alloc | (with_reducible refine SrcAt.setNew ?_ (by omega) _)))
            · exact (by repeat (first | with_reducible exact grown_refl _ _ | with_reducible assumption | with_reducible apply grownS_drewN | with_reducible apply grownS_drew | with_reducible apply grownS_alloc | (with_reducible refine grown_setNew ?_ (by first | omega | (simp; omega)) _) | with_reducible refine grown_trans ?_ (by with_reducible assumption)))
        case rest =>
          obtain ⟨b, j, hj, rfl, hbW, hblk, hs2, hg2⟩ := hcut
          have HS2 := Lib.hid (HS.out.draw hlt hs2 hg2)
          have HQV : Hid (∀ g, Value.ownBlock u5 = some g → g ≠ b) := Lib.hid (fun g hg e => by have := HS.out.own_lt g hg; omega)
          have hwb : w.heap.size ≤ b := by omega
          have hqb := lt_of_block hblk
          obtain ⟨m, rfl⟩ : ∃ m', m = m' + 1 := ⟨m - 1, by omega⟩
          clear hg2 hs HS HGET c0 c1 c2
          go_wp2_with fail
          refine (HP.out _ _ hs2 (by omega) _ (by omega)).mono ?_
          rintro e w3 ⟨s, rfl, s0, s1, hs3, hg3⟩
          have s2 : s ≤ 3 := by omega
          have es : IntKind.i8.wrap s = s := by simp [IntKind.wrap, IntKind.bits, IntKind.signed]; omega
          have HS3 := Lib.hid (HS2.out.draw hlt hs3 hg3)
          have hq3 := blk_kept hblk hg3 (by simp; omega)
          obtain ⟨a0, a1, a2, a3, f0, f1, f2, f3⟩ := four_cells hq3
          have HS4 := Lib.hid (HS3.out.set (o := 2) hlt hwb HQV.out (.int .i8 s))
          have hq4 : (w3.setCell ⟨b, 2, none⟩ (.int .i8 s)).heap[b]? = some (.cells #[.int .i8 l.ps[j].x, .int .i8 l.ps[j].y, .int .i8 s, .int .i16 0] 89 (0, 0)) := set_block hq3 2 (.int .i8 s)
          have HQ4 := Lib.hid hq4
          clear hq4 hq3 hblk hs2 HS2 HS3 hg3 hs3
          go_wp2_with fail
          have hs4 := HS4.out.src
          refine (HP.out _ _ hs4 (by omega) _ (by omega)).mono ?_
          rintro e w5 ⟨t, rfl, t0, t1, hs5, hg5⟩
          have t2 : t ≤ 5 := by omega
          have et : IntKind.i16.wrap t = t := by simp [IntKind.wrap, IntKind.bits, IntKind.signed]; omega
          have HS5 := Lib.hid (HS4.out.draw hlt hs5 hg5)
          have hq5 := blk_kept HQ4.out hg5 (by simp; omega)
          clear a0 a1 a2 a3 f0 f1 f2 f3 hs4 hg5 hs5 HS4 HQ4
          obtain ⟨a0, a1, a2, a3, f0, f1, f2, f3⟩ := four_cells hq5
          have HS6 := Lib.hid (HS5.out.set (o := 3) hlt hwb HQV.out (.int .i16 t))
          have HOWN := Lib.hid HS6.out.own
          have hzq := lt_of_block hq5
          have hln : qs.length ≤ 3 := by omega
          clear hq5 HS5
          go_wp2_with (at_builtin; go_must (refine wpList_append_sl _ rfl _ _ 29 rfl w.heap.size 89 i0 (.agg #[.int .i8 0, .int .i8 0, .int .i8 0, .int .i16 0]) 4 6 Tryz.underlying29 hi hz0 hz1 hz2 rfl (by decide) _ _ _ rfl (own_below HOWN.out (bl_alloc (Below.refl _ _)) (Nat.le_refl _)) (some ⟨_, 0, none⟩) 1 1 [.int .i8 l.ps[j].x, .int .i8 l.ps[j].y, .int .i8 s, .int .i16 t] rfl (sl_newD _ #[.int .i8 l.ps[j].x, .int .i8 l.ps[j].y, .int .i8 s, .int .i16 t] _ _ (by simp)) rfl (Pu.one ⟨l.ps[j].x, l.ps[j].y, s, t⟩) (by unfold maxLen; omega) (by omega) (by simp; omega) ?_); intro v3 wz hown3 hgrow; obtain ⟨a3, cap3, rfl, -⟩ := own_at hown3)
          go_roundw
          case rel => exact ⟨m, qs ++ [⟨l.ps[j].x, l.ps[j].y, s, t⟩], by omega, by simp only [List.length_append, List.length_cons, List.length_nil]; omega, by go_num, (HS6.out.push (q := ⟨l.ps[j].x, l.ps[j].y, s, t⟩) hlt hgrow (PuD.mk' hl hj s0 s2 t0 t2) hown3).le (by omega)⟩
          case measure => simp [intOf]
      · go_wp2_with fail
        go_ret
        exact ⟨_, rfl, qs, HS.out.pu, by omega, HS.out.own, HS.out.src.le (by omega), HS.out.grown⟩
end Go.Proofs.YtmeefmoblkiebaaGreat
/- Contracts: the board and the pushes that the laws draw. -/
namespace Go.Proofs.YtmeefmoblkiebaaGreat
open Go.RowKit
set_option linter.unusedVariables false
set_option linter.unusedSimpArgs false
set_option maxHeartbeats 400000
set_option maxRecDepth 100000
theorem below_of_grown {a w w' : World} {p : Nat} (h : Below a.heap.size a w) (hg : w.grownBy w' (some p)) (hp : a.heap.size ≤ p) : Below a.heap.size a w' := bl_grown h hg (fun k e => by cases e; exact hp)
theorem a2Board_any (a : Option Addr) (cap : Nat) (code : List Int) (w : World) (h : SlAt w.heap.size w a (flat U8c code)) (hc : BytesOk code) :
    Calls Tryz.prog 7 #[.slice a code.length cap] w fun e w' => ∃ (wd hg : Int) (v : Value), e = .returned (bdv wd hg v) ∧ ∃ ps : List Pc, vBd ⟨wd, hg, ps⟩ = true ∧ (Bd.mk wd hg ps).ok ∧ ps.length ≤ 24 ∧ w'.ownsRow w.heap.size 49 5 v ps.length (flat Pc.cells ps) ∧ Below w.heap.size w w' := by
  obtain ⟨W, hW⟩ : ∃ W, W = w.alloc (.cells #[.int .i8 0, .int .i8 0, .slice none 0 0] 27) := ⟨_, rfl⟩
  have hWs : w.heap.size < W.heap.size := by rw [hW]; simp
  have hWb : Below w.heap.size w W := by rw [hW]; exact bl_alloc (Below.refl _ _)
  have hWq : W.heap[w.heap.size]? = some (.cells #[.int .i8 0, .int .i8 0, .slice none 0 0] 27 (0, 0)) := by rw [hW]; exact heap_alloc_new _ _
  have HF := Lib.hid (l00From_any a cap code W ((h.below hWb (Nat.le_refl _)).mono (Nat.le_of_lt hWs)))
  have HWb := Lib.hid hWb
  have HWq := Lib.hid hWq
  clear hWb hWq
  go_enter Tryz.func7, Tryz.ntmps7
  go_wp2_with fail
  rw [← hW]
  clear hW
  refine HF.out.mono ?_
  rintro e w1 ⟨rfl, hs1, hb1⟩
  have HD := Lib.hid (l01Drawn_any W.heap.size code 0 w1 hs1 hc (by omega))
  have HB1 := Lib.hid hb1
  clear hs1 hb1
  go_wp2_with fail
  refine HD.out.mono ?_
  rintro e w2 ⟨wd, hg, v, rfl, ps, hv, hok, hln, hown, -, hg2⟩
  obtain ⟨av, capv, rfl, -⟩ := own_at hown
  have hz1 := HB1.out.size
  have hq1 : w1.heap[w.heap.size]? = _ := (HB1.out.block w.heap.size hWs).trans HWq.out
  have hq2 := blk_kept hq1 hg2 (by simp; omega)
  obtain ⟨d0, d1, d2, df⟩ := three_cells hq2
  have hb2 := below_of_grown (HWb.out.trans (HB1.out.mono (Nat.le_of_lt hWs))) hg2 (Nat.le_of_lt hWs)
  clear hq1
  go_wp2_with fail
  have hh := set_block (set_block (set_block hq2 0 (.int .i8 wd)) 1 (.int .i8 hg)) 2 (.slice av ps.length capv)
  have hk : ∀ q, (Value.slice av ps.length capv).ownBlock = some q → some q ≠ some w.heap.size := fun q hq e => by have := (hown.lt q hq).1; simp at e; omega
  refine bodyPost_ret (v := bdv wd hg (.slice av ps.length capv)) (results_cell_row Tryz.results7 _ _ w.heap.size 27 _ (0, 0) _ rfl hh Tryz.underlying27 rfl (by kernel_rfl)) rfl ⟨wd, hg, .slice av ps.length capv, rfl, ps, hv, hok, hln, ?_, (by repeat (first | with_reducible exact Below.refl _ _ | with_reducible assumption | with_reducible apply bl_drewN | with_reducible apply bl_drew | with_reducible apply bl_alloc | (with_reducible refine bl_set ?_ (by first | (simp; done) | (simp; omega)) _) | with_reducible refine bl_trans ?_ (by with_reducible assumption)))⟩
  exact own_mono (own_kept (own_kept (own_kept hown (grown_set1 _ _ 0 _) hk) (grown_set1 _ _ 1 _) hk) (grown_set1 _ _ 2 _) hk) (by omega)
theorem a2Pushes_any (a : Option Addr) (cap : Nat) (code : List Int) (wd hg : Int) (s : Value) (ps : List Pc) (w : World) (h : SlAt w.heap.size w a (flat U8c code)) (hc : BytesOk code) (hps : PV w s ps) (hok : (Bd.mk wd hg ps).ok) (hn : ps.length ≤ 1000) :
    Calls Tryz.prog 8 #[.slice a code.length cap, bdv wd hg s] w fun e w' => ∃ v : Value, e = .returned v ∧ ∃ qs : List Pu, vPus ⟨wd, hg, ps⟩ qs = true ∧ PusOk qs ∧ qs.length ≤ 3 ∧ w'.ownsRow w.heap.size 89 4 v qs.length (flat Pu.cells qs) ∧ Below w.heap.size w w' := by
  obtain ⟨ap, capp, rfl, hps⟩ := hps
  obtain ⟨W, hW⟩ : ∃ W, W = w.alloc (.cells #[.int .i8 wd, .int .i8 hg, .slice ap ps.length capp] 27) := ⟨_, rfl⟩
  have hWs : w.heap.size < W.heap.size := by rw [hW]; simp
  have hWb : Below w.heap.size w W := by rw [hW]; exact bl_alloc (Below.refl _ _)
  have hWq : W.heap[w.heap.size]? = some (.cells #[.int .i8 wd, .int .i8 hg, .slice ap ps.length capp] 27 (0, 0)) := by rw [hW]; exact heap_alloc_new _ _
  have HF := Lib.hid (l00From_any a cap code W ((h.below hWb (Nat.le_refl _)).mono (Nat.le_of_lt hWs)))
  have HWb := Lib.hid hWb
  have HWq := Lib.hid hWq
  clear hWb hWq
  go_enter Tryz.func8, Tryz.ntmps8
  go_wp2_with fail
  rw [← hW]
  clear hW
  refine HF.out.mono ?_
  rintro e w1 ⟨rfl, hs1, hb1⟩
  have hq1 : w1.heap[w.heap.size]? = _ := (hb1.block w.heap.size hWs).trans HWq.out
  have hlt1 := hs1.lt
  have hb01 := HWb.out.trans (hb1.mono (Nat.le_of_lt hWs))
  obtain ⟨d0, d1, d2, df⟩ := three_cells hq1
  have hB : BdP w1 W.heap.size w.heap.size ⟨wd, hg, ps⟩ := ⟨hWs, hlt1, ap, capp, ⟨d0, d1, d2⟩, (hps.below hb01 (Nat.le_refl _)).mono (Nat.le_of_lt hWs)⟩
  have HD := Lib.hid (l02Drawn_any W.heap.size w.heap.size ⟨wd, hg, ps⟩ hok hn code 0 w1 hs1 hB hc (by omega))
  have HB1 := Lib.hid hb01
  have hz1 := hb1.size
  clear hs1 hb1 hb01 hB d0 d1 d2 df hq1
  go_wp2_with fail
  refine HD.out.mono ?_
  rintro e w2 ⟨v, rfl, qs, hpu, hql, hown, -, hg2⟩
  obtain ⟨g1, g2⟩ := PuD.vPus hpu (by omega)
  have hb2 := below_of_grown HB1.out hg2 (Nat.le_of_lt hWs)
  have hown2 := own_mono (base := w.heap.size) hown (by omega)
  go_wp2
  go_ret
  exact ⟨v, rfl, qs, g1, g2, hql, hown2, hb2⟩
end Go.Proofs.YtmeefmoblkiebaaGreat
/- Contracts: laws.a2Long, laws.a2At. -/
namespace Go.Proofs.YtmeefmoblkiebaaGreat
open Go.RowKit
set_option linter.unusedVariables false
set_option linter.unusedSimpArgs false
set_option maxHeartbeats 400000
set_option maxRecDepth 100000
theorem a2Long_any (a a' : Option Addr) (n n' cap cap' : Nat) (w : World) :
    Calls Tryz.prog 6 #[.slice a n cap, .slice a' n' cap'] w fun e w' => e = .returned (.bool (decide (3000 < n) || decide (3000 < n'))) ∧ w = w' := by
  rcases dec_cases ((n : Int) > 3000) with ⟨g1, g2⟩ | ⟨g1, g2⟩
  · have h1 : decide (3000 < n) = true := by simp; omega
    go_enter Tryz.func6, Tryz.ntmps6
    go_wp2
    go_ret
    exact ⟨by simp [h1], rfl⟩
  · have h1 : decide (3000 < n) = false := by simp; omega
    rcases dec_cases ((n' : Int) > 3000) with ⟨g3, g4⟩ | ⟨g3, g4⟩
    · have h2 : decide (3000 < n') = true := by simp; omega
      go_enter Tryz.func6, Tryz.ntmps6
      go_wp2
      go_ret
      exact ⟨by simp [h1, h2], rfl⟩
    · have h2 : decide (3000 < n') = false := by simp; omega
      go_enter Tryz.func6, Tryz.ntmps6
      go_wp2
      go_ret
      exact ⟨by simp [h1, h2], rfl⟩
theorem a2At_any {B : Nat} (a : Option Addr) (cap : Nat) (code : List Int) (i n : Int) (w : World) (h : SlAt B w a (flat U8c code)) (hc : BytesOk code) (hi : 0 ≤ i) (hi2 : i ≤ 100) :
    Calls Tryz.prog 20 #[.slice a code.length cap, .int .i64 i, .int .i64 n] w fun e w' => ∃ v : Int, e = .returned (.int .i64 v) ∧ 0 ≤ v ∧ v < max n 1 ∧ w = w' := by
  have hcl := hc.1
  rcases dec_cases (i ≥ (code.length : Int)) with ⟨g1, g2⟩ | ⟨g1, g2⟩
  · go_enter Tryz.func20, Tryz.ntmps20
    go_wp2
    go_ret
    exact ⟨0, rfl, by omega, by omega, rfl⟩
  · rcases dec_cases (n < 1) with ⟨g3, g4⟩ | ⟨g3, g4⟩
    · go_enter Tryz.func20, Tryz.ntmps20
      go_wp2
      go_ret
      exact ⟨0, rfl, by omega, by omega, rfl⟩
    · obtain ⟨j, rfl⟩ : ∃ j : Nat, i = (j : Int) := ⟨i.toNat, by omega⟩
      have hj : j < code.length := by omega
      obtain ⟨b, off, rfl, hbp, hget⟩ := h.get U8c_len (by omega) hj
      have hget0 := hget 0 _ rfl
      rw [Nat.mul_one, Nat.add_zero] at hget0
      obtain ⟨b0, b1⟩ := hc.2 j hj
      obtain ⟨v, hv⟩ : ∃ v, v = code[j] := ⟨_, rfl⟩
      rw [← hv] at hget0 b0 b1
      have hwv : IntKind.i64.wrap v = v := wrap_i64' _ (by omega) (by omega)
      clear hget hv
      go_enter Tryz.func20, Tryz.ntmps20
      go_wp2
      go_ret
      exact ⟨_, rfl, Int.emod_nonneg _ (by omega), Int.lt_of_lt_of_le (Int.emod_lt_of_pos _ (by omega)) (by omega), rfl⟩
end Go.Proofs.YtmeefmoblkiebaaGreat
/- Contracts: equal falls (spec.SameFalls). -/
namespace Go.Proofs.YtmeefmoblkiebaaGreat
open Go.RowKit
set_option linter.unusedVariables false
set_option linter.unusedSimpArgs false
set_option maxHeartbeats 400000
set_option maxRecDepth 100000
theorem l02Same_any {B : Nat} (a a' : Option Addr) (cap cap' : Nat) (ps qs : List Fa) (w : World) (hps : SlAt B w a (flat Fa.cells ps)) (hqs : SlAt B w a' (flat Fa.cells qs)) (hB : B ≤ w.heap.size) (hn : ps.length ≤ 10000000) (hn' : qs.length ≤ 10000000) :
    Calls Tryz.prog 54 #[.slice a ps.length cap, .slice a' qs.length cap'] w fun e w' => e = .returned (.bool (decide (ps = qs))) ∧ Below w.heap.size w w' := by
  by_cases hl : ps.length = qs.length
  · have hl2 : ((ps.length : Int) != (qs.length : Int)) = false := by simp [hl]
    have Hl := Lib.hid hl; clear hl
    go_enter Tryz.func54, Tryz.ntmps54
    go_wp2
    go_loopw [5] (fun i wr => ∃ k : Nat, k ≤ ps.length ∧ i = .int .i64 k ∧ ps.take k = qs.take k ∧ Below w.heap.size w wr) (fun i _ => ps.length - (intOf i).toNat)
    case atStart => exact ⟨0, by omega, rfl, by simp, Below.refl _ _⟩
    case round =>
      obtain ⟨k, hk, rfl, heq, hb⟩ := hrel
      have Heq := Lib.hid heq; clear heq
      by_cases hlt : k < ps.length
      · have hlt' : k < qs.length := by rw [← Hl.out]; exact hlt
        obtain ⟨b, off, rfl, hbl, hat⟩ := fas_get (hps.below hb hB) hlt
        obtain ⟨b', off', rfl, hbl', hat'⟩ := fas_get (hqs.below hb hB) hlt'
        unfold FaAt at hat hat'
        have hrun := fun W : World => run_neq_fa ps[k].t ps[k].f ps[k].b qs[k].t qs[k].f qs[k].b W
        cases g3 : (!decide (ps[k].t = qs[k].t) || (!decide (ps[k].f = qs[k].f) || !decide (ps[k].b = qs[k].b))) with
        | false =>
          have G2 : Hid (ps[k] = qs[k]) := Lib.hid (by
            have h1 : ps[k].t = qs[k].t ∧ ps[k].f = qs[k].f ∧ ps[k].b = qs[k].b := by simpa using g3
            have h2 : ps[k] = ⟨ps[k].t, ps[k].f, ps[k].b⟩ := rfl
            rw [h2, h1.1, h1.2.1, h1.2.2])
          go_wp2_with fail
          go_quiet (fail)
          go_wp2
          go_roundw
          case rel => exact ⟨k + 1, by omega, by go_num, by rw [List.take_succ_eq_append_getElem hlt, List.take_succ_eq_append_getElem hlt', Heq.out, G2.out], (by repeat (first | with_reducible exact Below.refl _ _ | with_reducible assumption | with_reducible apply bl_drewN | with_reducible apply bl_drew | with_reducible apply bl_alloc | (with_reducible refine bl_set ?_ (by first | (simp; done) | (simp; omega)) _) | with_reducible refine bl_trans ?_ (by with_reducible assumption)))⟩
          case measure => simp [intOf]; omega
        | true =>
          have G2 : Hid (ps ≠ qs) := Lib.hid (by
            intro h
            subst h
            simp at g3)
          go_wp2_with fail
          go_quiet (fail)
          go_wp2
          go_ret
          have hne := G2.out
          exact ⟨by simp [hne], (by repeat (first | with_reducible exact Below.refl _ _ | with_reducible assumption | with_reducible apply bl_drewN | with_reducible apply bl_drew | with_reducible apply bl_alloc | (with_reducible refine bl_set ?_ (by first | (simp; done) | (simp; omega)) _) | with_reducible refine bl_trans ?_ (by with_reducible assumption)))⟩
      · go_wp2
        go_ret
        have hne : ps = qs := by
          have := Heq.out
          rwa [List.take_of_length_le (by omega), List.take_of_length_le (by have := Hl.out; omega)] at this
        exact ⟨by simp [hne], (by repeat (first | with_reducible exact Below.refl _ _ | with_reducible assumption | with_reducible apply bl_drewN | with_reducible apply bl_drew | with_reducible apply bl_alloc | (with_reducible refine bl_set ?_ (by first | (simp; done) | (simp; omega)) _) | with_reducible refine bl_trans ?_ (by with_reducible assumption)))⟩
  · have hl2 : ((ps.length : Int) != (qs.length : Int)) = true := by simp; omega
    have Hl := Lib.hid hl; clear hl
    go_enter Tryz.func54, Tryz.ntmps54
    go_wp2
    go_ret
    have hne : ps ≠ qs := fun h => Hl.out (by rw [h])
    exact ⟨by simp [hne], (by repeat (first | with_reducible exact Below.refl _ _ | with_reducible assumption | with_reducible apply bl_drewN | with_reducible apply bl_drew | with_reducible apply bl_alloc | (with_reducible refine bl_set ?_ (by first | (simp; done) | (simp; omega)) _) | with_reducible refine bl_trans ?_ (by with_reducible assumption)))⟩
theorem specSameFalls_any {B : Nat} (a a' : Option Addr) (cap cap' : Nat) (ps qs : List Fa) (w : World) (hps : SlAt B w a (flat Fa.cells ps)) (hqs : SlAt B w a' (flat Fa.cells qs)) (hB : B ≤ w.heap.size) (hn : ps.length ≤ 10000000) (hn' : qs.length ≤ 10000000) :
    Calls Tryz.prog 15 #[.slice a ps.length cap, .slice a' qs.length cap'] w fun e w' => e = .returned (.bool (decide (ps = qs))) ∧ Below w.heap.size w w' := by
  go_enter Tryz.func15, Tryz.ntmps15
  go_wp2_with fail
  refine (l02Same_any a a' cap cap' ps qs w hps hqs hB hn hn').mono ?_
  rintro e w1 ⟨rfl, hb⟩
  go_wp2
  go_ret
  exact ⟨rfl, hb⟩
end Go.Proofs.YtmeefmoblkiebaaGreat
