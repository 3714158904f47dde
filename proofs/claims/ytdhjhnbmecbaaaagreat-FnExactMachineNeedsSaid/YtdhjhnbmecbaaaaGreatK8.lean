import Derived.Test.YtdhjhnbmecbaaaaGreatK7
import Derived.Deep.CutRange
/- Contracts: LoadedParts (the reference). -/
namespace Go.Proofs.YtdhjhnbmecbaaaaGreat
open Go.RowKit
set_option linter.unusedVariables false
set_option linter.unusedSimpArgs false
set_option maxHeartbeats 400000
set_option maxRecDepth 100000
theorem make_i64 (n : Nat) (hn : n ≤ 100000) (w : World) : (Instr.makeSlice 30 (.int .i64 (n : Int)) (.int .i64 (n : Int))).run Tryz.prog w = .ok (.slice (some ⟨w.heap.size, 0, none⟩) n n) (w.alloc (.cells (madeCells (Value.int .i64 0).cells (n * 1)) 2)) := by
  obtain ⟨i0, hi, hz0, hz1, hz2⟩ := info_parts Tryz.infoInt64
  have h := run_make (P := Tryz.prog) w 30 2 i0 (.int .i64 0) Tryz.underlying30 hi hz0 .i64 .i64 n n (by omega) (by omega) (by rw [hz2]; omega) (by omega)
  rw [hz1] at h
  simpa using h
theorem n64_set {w : World} {base g n cap : Nat} {xs : List Int} (h : w.ownsRow base 2 1 (.slice (some ⟨g, 0, none⟩) n cap) n (flat N64_cells xs)) (j : Nat) (x : Int) : (w.setCell ⟨g, j, none⟩ (.int .i64 x)).ownsRow base 2 1 (.slice (some ⟨g, 0, none⟩) n cap) n (flat N64_cells (xs.set j x)) := by
  have h1 := (h.stored j (.int .i64 x)).1
  rw [flatN] at h1 ⊢
  rwa [List.map_set]
def lpAt (c : Nat → Nat → Int) (k : Nat) : Nat → Int
  | 0 => 0
  | r + 1 => lpAt c k r + c r k
def lpSt (c : Nat → Nat → Int) (n r i : Nat) : List Int := (List.range n).map (fun k => lpAt c k (if k < i then r + 1 else r))
theorem lpSt_len (c : Nat → Nat → Int) (n r i : Nat) : (lpSt c n r i).length = n := by simp [lpSt]
theorem lpSt_get (c : Nat → Nat → Int) (n r i j : Nat) (hj : j < n) : (lpSt c n r i)[j]'(by rw [lpSt_len]; exact hj) = lpAt c j (if j < i then r + 1 else r) := by simp [lpSt]
theorem lpSt_end (c : Nat → Nat → Int) (n r : Nat) : lpSt c n r n = lpSt c n (r + 1) 0 := by
  unfold lpSt
  apply List.map_congr_left
  intro j hj
  rw [List.mem_range] at hj
  rw [if_pos hj, if_neg (by omega)]
theorem lpSt_zero (c : Nat → Nat → Int) (n : Nat) : lpSt c n 0 0 = zeros n := by
  unfold lpSt zeros
  apply List.ext_getElem
  · simp
  · intro i h1 h2
    simp [lpAt]
theorem lpSt_set (c : Nat → Nat → Int) (n r i : Nat) (hi : i < n) : (lpSt c n r i).set i (lpAt c i r + c r i) = lpSt c n r (i + 1) := by
  apply List.ext_getElem
  · simp [lpSt]
  · intro j h1 h2
    have hj : j < n := by rw [lpSt_len] at h2; exact h2
    rw [List.getElem_set, lpSt_get c n r (i + 1) j hj]
    by_cases e : i = j
    · subst e; rw [if_pos rfl, if_pos (by omega)]; rfl
    · rw [if_neg e, lpSt_get c n r i j hj]
      by_cases h3 : j < i
      · rw [if_pos h3, if_pos (by omega)]
      · rw [if_neg h3, if_neg (by omega)]
theorem lpSt_same (c : Nat → Nat → Int) (n r i : Nat) (hi : i < n) (h : c r i = 0) : lpSt c n r (i + 1) = lpSt c n r i := by
  rw [← lpSt_set c n r i hi]
  apply List.ext_getElem (by simp)
  intro j h1 h2
  rw [List.getElem_set]
  split
  · rename_i e; subst e; rw [lpSt_get c n r _ _ hi, if_neg (by omega), h]; omega
  · rfl
theorem lpAt_bd (c : Nat → Nat → Int) (hc : ∀ r k, 0 ≤ c r k ∧ c r k ≤ 1) (k : Nat) : ∀ r : Nat, 0 ≤ lpAt c k r ∧ lpAt c k r ≤ r
  | 0 => ⟨Int.le_refl _, Int.le_refl _⟩
  | r + 1 => by
    have h1 := lpAt_bd c hc k r
    have h2 := hc r k
    show 0 ≤ lpAt c k r + c r k ∧ lpAt c k r + c r k ≤ ((r + 1 : Nat) : Int)
    omega
/-- The cells outside one block are as they were. -/
def LpK (g : Nat) (a b : World) : Prop := a.heap.size ≤ b.heap.size ∧ ∀ p : Addr, p.block < a.heap.size → p.block ≠ g → b.cell? p = a.cell? p
theorem LpK.refl (g : Nat) (a : World) : LpK g a a := ⟨Nat.le_refl _, fun _ _ _ => rfl⟩
theorem LpK.grown {g : Nat} {a b c : World} {row : Option Nat} (h : LpK g a b) (k : b.grownBy c row) (hr : ∀ q, row = some q → q = g) : LpK g a c :=
  ⟨Nat.le_trans h.1 k.size, fun p hp hn => (k.cell_far p (Nat.lt_of_lt_of_le hp h.1) (fun e => hn (hr _ e.symm))).trans (h.2 p hp hn)⟩
theorem grown_set (w : World) (g j : Nat) (v : Value) : w.grownBy (w.setCell ⟨g, j, none⟩ v) (some g) :=
  ⟨rfl, rfl, rfl, by simp, fun k _ hk => heap_setCell_other w ⟨g, j, none⟩ k v (fun e => hk (by simp [e]))⟩
theorem LpK.set {g : Nat} {a b : World} (h : LpK g a b) (j : Nat) (v : Value) : LpK g a (b.setCell ⟨g, j, none⟩ v) := h.grown (grown_set b g j v) (fun q e => by cases e; rfl)
theorem LpK.below {g : Nat} {a b c : World} (h : LpK g a b) (k : Below b.heap.size b c) : LpK g a c :=
  ⟨Nat.le_trans h.1 k.size, fun p hp hn => (k.cell (p := p) (Nat.lt_of_lt_of_le hp h.1)).trans (h.2 p hp hn)⟩
theorem own_made (w : World) (cur : Array Value) (n : Nat) (e : TypeId) (size base : Nat) (hb : base ≤ w.heap.size) (hm : n ≤ maxLen) (hs : cur.size = n * size) :
    (w.alloc (.cells cur e)).ownsRow base e size (.slice (some ⟨w.heap.size, 0, none⟩) n n) n cur.toList :=
  ⟨by simp [hs], .inr ⟨w.heap.size, n, cur, rfl, hb, heap_alloc_new w _, Nat.le_refl _, hm, hs, by rw [List.take_of_length_le]; simp [hs]⟩⟩
noncomputable def lpC (m : Mc) (r k : Nat) : Int := if 0 ≤ ((mFa m r (zeros m.ins.length)).getD k default).t then 1 else 0
theorem lpC_bd (m : Mc) (r k : Nat) : 0 ≤ lpC m r k ∧ lpC m r k ≤ 1 := by unfold lpC; split <;> omega
noncomputable def lpVal (m : Mc) : List Int := if vMc m = true then lpSt (lpC m) m.bd.ps.length (mRows m) 0 else []
theorem lpVal_len (m : Mc) : (lpVal m).length ≤ m.bd.ps.length := by unfold lpVal; split; rw [lpSt_len]; exact Nat.le_refl _; exact Nat.zero_le _
set_option maxHeartbeats 1600000 in
theorem specLoadedParts_any (m : Mc) (v : Value) (w : World) (h : MV w v m) (hok : m.ok) (hn : m.bd.ps.length ≤ 10000000) (hn1 : m.ins.length ≤ 10000000) (hn2 : m.outs.length ≤ 10000000) :
    Calls Tryz.prog 39 #[v] w fun e w' => ∃ v, e = .returned (.tuple #[v, .int .i64 (mCode m)]) ∧ w'.ownsRow w.heap.size 2 1 v (lpVal m).length (flat N64_cells (lpVal m)) ∧ Below w.heap.size w w' := by
  obtain ⟨s, si, so, rfl, ⟨aa, capa, rfl, h0⟩, ⟨ai, capi, rfl, h1⟩, h2⟩ := h
  have HM := Lib.hid (MP.new (m := m) (w := w) ⟨aa, capa, rfl, h0⟩ ⟨ai, capi, rfl, h1⟩ h2 40)
  have HBA := Lib.hid (show Below w.heap.size w (w.alloc (.cells #[.int .i8 m.bd.wd, .int .i8 m.bd.hg, .slice aa m.bd.ps.length capa, .slice ai m.ins.length capi, so] 40)) from bl_alloc (Below.refl _ _))
  have HXB := Lib.hid (BX5.new w (.int .i8 m.bd.wd) (.int .i8 m.bd.hg) (.slice aa m.bd.ps.length capa) (.slice ai m.ins.length capi) so 40)
  have HOK := Lib.hid (l03Ok_any w.heap.size m _ HM.out hok hn hn1 hn2)
  rcases Bool.eq_false_or_eq_true (vMc m) with g1 | g1
  · obtain ⟨hvb, h60, hi1, hi6, ho1, ho8, -⟩ := vMc_parts m g1
    have HC : Hid (mCode m = 0) := Lib.hid (by unfold mCode; rw [if_pos g1])
    have HLV : Hid (lpVal m = lpSt (lpC m) m.bd.ps.length (mRows m) 0) := Lib.hid (by unfold lpVal; rw [if_pos g1])
    have HLL : Hid ((lpSt (lpC m) m.bd.ps.length (mRows m) 0).length = m.bd.ps.length) := Lib.hid (lpSt_len _ _ _ _)
    rw [HC.out, HLV.out, HLL.out]
    rw [g1] at HOK
    have HRO := Lib.hid (fun w1 (hb : Below (w.alloc (.cells #[.int .i8 m.bd.wd, .int .i8 m.bd.hg, .slice aa m.bd.ps.length capa, .slice ai m.ins.length capi, so] 40)).heap.size (w.alloc (.cells #[.int .i8 m.bd.wd, .int .i8 m.bd.hg, .slice aa m.bd.ps.length capa, .slice ai m.ins.length capi, so] 40)) w1) => l03Rows_any w.heap.size m w1 (HM.out.step hb) hi6)
    have HPU := Lib.hid (fun w1 (hb : Below (w.alloc (.cells #[.int .i8 m.bd.wd, .int .i8 m.bd.hg, .slice aa m.bd.ps.length capa, .slice ai m.ins.length capi, so] 40)).heap.size (w.alloc (.cells #[.int .i8 m.bd.wd, .int .i8 m.bd.hg, .slice aa m.bd.ps.length capa, .slice ai m.ins.length capi, so] 40)) w1) (r : Nat) (hr : r < 64) a (hs : SlAt w1.heap.size w1 a (flat N64_cells (zeros m.ins.length))) => l03Pushes_any (B := w1.heap.size) w.heap.size m r a m.ins.length (zeros m.ins.length) w1 (HM.out.step hb) hi6 (by simp [zeros]) (zeros_ok _) hs (Nat.le_refl _) hr)
    have HRU := Lib.hid (fun (r : Nat) w1 (hb : Below (w.alloc (.cells #[.int .i8 m.bd.wd, .int .i8 m.bd.hg, .slice aa m.bd.ps.length capa, .slice ai m.ins.length capi, so] 40)).heap.size (w.alloc (.cells #[.int .i8 m.bd.wd, .int .i8 m.bd.hg, .slice aa m.bd.ps.length capa, .slice ai m.ins.length capi, so] 40)) w1) ap capp (hsp : SlAt w1.heap.size w1 ap (flat Pu.cells (mPu m r (zeros m.ins.length)))) => by
      obtain ⟨o1, o2, o3, o4⟩ := mPu_ok m g1 hok r (zeros m.ins.length) (zeros_ok _)
      exact l02Run_any (B := w1.heap.size) w.heap.size m.bd ap capp (mPu m r (zeros m.ins.length)) w1 (HM.out.step hb).bp hvb hsp o1 o2 o3 o4 (Nat.le_refl _))
    have HEQ : Hid (∀ (r : Nat) fs2, okFa m.bd.ps (mPu m r (zeros m.ins.length)) fs2 → fs2 = mFa m r (zeros m.ins.length)) := Lib.hid (fun r fs2 h => by
      obtain ⟨o1, o2, o3, o4⟩ := mPu_ok m g1 hok r (zeros m.ins.length) (zeros_ok _)
      exact (runOf_eq _ _ _ (good_bd m.bd hvb _ o2) h))
    have HFL := Lib.hid (fun (r : Nat) => mFa_len m r (zeros m.ins.length))
    have HCC : Hid (∀ r k (hk : k < (mFa m r (zeros m.ins.length)).length), lpC m r k = if 0 ≤ (mFa m r (zeros m.ins.length))[k].t then 1 else 0) := Lib.hid (fun r k hk => by unfold lpC; rw [getD_fa _ _ hk])
    have HBD := Lib.hid (lpAt_bd (lpC m) (lpC_bd m))
    have hR64 := mRows_le m hi6
    obtain ⟨R, hRR⟩ : ∃ R, R = mRows m := ⟨_, rfl⟩
    rw [← hRR] at HRO hR64 ⊢
    obtain ⟨c, hc⟩ : ∃ c, c = lpC m := ⟨_, rfl⟩
    rw [← hc] at HCC HBD ⊢
    clear g1 HC HLV HLL hRR hc
    obtain ⟨res, hres⟩ : ∃ res, res = lpSt c m.bd.ps.length R 0 := ⟨_, rfl⟩
    rw [← hres]
    have HRES := Lib.hid hres
    clear hres
    obtain ⟨i0, hi0, hiz0, hiz1, hiz2⟩ := info_parts Tryz.infoInt64
    go_enter Tryz.func39, Tryz.ntmps39
    go_wp2_with fail
    refine HOK.out.mono ?_
    rintro e w1 ⟨rfl, hb1⟩
    have HB1 := Lib.hid hb1
    obtain ⟨-, -, -, x2, x3, -⟩ := HXB.out.step hb1
    have hz1 := hb1.size
    simp only [World.size_alloc] at hz1
    have q0 : w.heap.size < w1.heap.size := by omega
    clear hb1
    go_wp2_with (first | (refine wpList_make_full _ rfl (.tmp 14) (.tmp 14) 30 rfl w1.heap.size 2 i0 _ 1 Tryz.underlying30 hi0 hiz0 hiz1 _ _ _ _ m.ins.length rfl rfl rfl rfl (by rw [hiz2]; omega) (by unfold maxLen; omega) (Nat.le_refl _) ?_; intro w2 hmade2 hgrow2; have hb2 : Below w1.heap.size w1 w2 := bl_grown (Below.refl _ _) hgrow2 (by simp); have y2 : w2.cell? ⟨w.heap.size, 2, none⟩ = some (.slice aa m.bd.ps.length capa) := by rw [hb2.cell (p := ⟨w.heap.size, 2, none⟩) q0]; exact x2) | (refine wpList_make_full _ rfl (.tmp 19) (.tmp 19) 30 rfl w2.heap.size 2 i0 _ 1 Tryz.underlying30 hi0 hiz0 hiz1 _ _ _ _ m.bd.ps.length rfl rfl rfl rfl (by rw [hiz2]; omega) (by unfold maxLen; omega) (Nat.le_refl _) ?_; intro w3 hmade hgrow))
    rw [made_rep _ rfl, ← flat_zeros] at hmade2
    obtain ⟨az, capz, hvz, hslz, -, -⟩ := own_at hmade2
    simp only [Value.slice.injEq] at hvz
    obtain ⟨rfl, -, rfl⟩ := hvz
    have HSZ := Lib.hid hslz
    have HB2 := Lib.hid (bl_trans HB1.out hb2)
    have hz2 := hb2.size
    rw [made_rep _ rfl, ← flat_zeros, ← lpSt_zero c] at hmade
    have hb3 : Below w2.heap.size w2 w3 := bl_grown (Below.refl _ _) hgrow (by simp)
    have HSZ3 := Lib.hid (HSZ.out.below hb3 (Nat.le_refl _))
    have HB3 := Lib.hid (bl_trans HB2.out hb3)
    have HMD := Lib.hid hmade
    have HBR := Lib.hid hb3
    have hz3 := hb3.size
    clear hmade hgrow hb3 y2 hmade2 hgrow2 hslz hb2 x2 x3
    go_loopw [6] (fun rx wr => ∃ r : Nat, r ≤ R ∧ rx = .int .i64 r ∧ wr.ownsRow w2.heap.size 2 1 (.slice (some ⟨w2.heap.size, 0, none⟩) m.bd.ps.length m.bd.ps.length) m.bd.ps.length (flat N64_cells (lpSt c m.bd.ps.length r 0)) ∧ Below w2.heap.size w2 wr) (fun rx _ => R - (intOf rx).toNat)
    case atStart => exact ⟨0, by omega, rfl, HMD.out, HBR.out⟩
    case round =>
      obtain ⟨r, hr, rfl, hown, hb⟩ := hrel
      have hwlt := (hown.lt w2.heap.size rfl).2
      have HOWN := Lib.hid hown
      clear hown
      by_cases hlt : r < R
      · have HBW := Lib.hid (bl_trans HB2.out hb)
        have hzb := hb.size
        have HPC := Lib.hid (HPU.out wr HBW.out r (by omega) _ ((HSZ.out.below hb (Nat.le_refl _)).mono hzb))
        have hrI : (r : Int) < R := by omega
        have HBB := Lib.hid hb
        clear hb
        go_wp2_with (go_at_call 80; refine (HRO.out _ HBW.out).mono ?_; rintro e w' ⟨rfl, rfl⟩)
        refine HPC.out.mono ?_
        rintro e w4 ⟨v4, rfl, hown4, hb4⟩
        obtain ⟨ap, capp, rfl, hsp, -⟩ := own_at hown4
        have HB4 := Lib.hid (bl_trans HBW.out hb4)
        have HRC := Lib.hid (HRU.out r w4 HB4.out ap capp hsp)
        have HBB4 := Lib.hid hb4
        clear hown4 hb4 hsp HPC
        go_wp2_with fail
        refine HRC.out.mono ?_
        rintro e w5 ⟨v5, fs2, rfl, hown5, hokf, -, hb5⟩
        have he := HEQ.out r fs2 hokf
        obtain ⟨av, capv, hve, hsl, -, -⟩ := own_at hown5
        subst hve
        have HFA : Hid (∀ q o, (some ⟨q, o, none⟩ : Option Addr) = av → w4.heap.size ≤ q) := Lib.hid (fun q o e => (hown5.lt q (by rw [← e]; rfl)).1)
        have HFLR : Hid (fs2.length = m.bd.ps.length) := Lib.hid (by rw [he]; exact HFL.out r)
        have HCR : Hid (∀ k (hk : k < fs2.length), c r k = if 0 ≤ fs2[k].t then 1 else 0) := Lib.hid (by subst he; exact fun k hk => HCC.out r k hk)
        have hb45 := bl_trans HBB4.out hb5
        have HO5 := Lib.hid (own_below HOWN.out hb45 (Nat.le_refl _))
        have HB5 := Lib.hid (bl_trans HBB.out hb45)
        have hz4 := HBB4.out.size
        have hz5 := hb5.size
        clear hown5 hokf hb5 hb45 he HRC
        obtain ⟨W1, hW1⟩ : ∃ W1, W1 = wr := ⟨_, rfl⟩
        subst hW1
        go_wp2
        go_loopw [8] (fun ix wi => ∃ i : Nat, i ≤ m.bd.ps.length ∧ ix = .int .i64 i ∧ wi.ownsRow w2.heap.size 2 1 (.slice (some ⟨w2.heap.size, 0, none⟩) m.bd.ps.length m.bd.ps.length) m.bd.ps.length (flat N64_cells (lpSt c m.bd.ps.length r i)) ∧ Below w2.heap.size w2 wi ∧ LpK w2.heap.size w5 wi) (fun ix _ => m.bd.ps.length - (intOf ix).toNat)
        case atStart => exact ⟨0, by omega, rfl, HO5.out, HB5.out, LpK.refl _ _⟩
        case round =>
          obtain ⟨i, hi, rfl, hown, hb, hlk⟩ := hrel
          by_cases hlti : i < m.bd.ps.length
          · obtain ⟨k0, k1⟩ := n64_cell hown i (by rw [lpSt_len]; exact hlti)
            rw [lpSt_get c _ r i i hlti, if_neg (by omega)] at k0
            have HOWI := Lib.hid hown
            have hiI : (i : Int) < m.bd.ps.length := by omega
            have hif : i < fs2.length := by rw [HFLR.out]; exact hlti
            have hifI : (i : Int) < fs2.length := by omega
            obtain ⟨bf, offf, rfl, hbf, hatf⟩ := fas_get hsl hif
            have hne := HFA.out bf offf rfl
            obtain ⟨t, ht⟩ : ∃ t, t = fs2[i].t := ⟨_, rfl⟩
            have q1 : wr.cell? ⟨bf, offf + i * 3, none⟩ = some (.int .i64 t) := by rw [hlk.2 ⟨bf, offf + i * 3, none⟩ hbf (by simp only; omega), ht]; exact hatf.1
            have hA := HBD.out i r
            have HST := Lib.hid (lpSt_set c m.bd.ps.length r i hlti)
            have HSM := Lib.hid (lpSt_same c m.bd.ps.length r i hlti)
            have HCI : Hid (c r i = if 0 ≤ t then 1 else 0) := Lib.hid (by rw [ht]; exact HCR.out i hif)
            obtain ⟨Av, hAv⟩ : ∃ Av, Av = lpAt c i r := ⟨_, rfl⟩
            rw [← hAv] at k0 hA HST
            have HLK := Lib.hid hlk
            have HBI := Lib.hid hb
            clear hown hb hlk hatf ht hAv hif
            rcases dec_cases (0 ≤ t) with ⟨g3, k3⟩ | ⟨g3, k3⟩
            · have HV1 : Hid ((lpSt c m.bd.ps.length r i).set i (Av + 1) = lpSt c m.bd.ps.length r (i + 1)) := Lib.hid (by rw [← HST.out, HCI.out, if_pos k3])
              clear k3
              go_wp2
              have how := n64_set HOWI.out i (Av + 1)
              rw [HV1.out] at how
              go_roundw
              case rel => exact ⟨i + 1, by omega, by go_num, how, bl_set HBI.out (Nat.le_refl _) _, HLK.out.set _ _⟩
              case measure => simp [intOf]; omega
            · have HV1 : Hid (lpSt c m.bd.ps.length r (i + 1) = lpSt c m.bd.ps.length r i) := Lib.hid (HSM.out (by rw [HCI.out, if_neg k3]))
              clear k3 k0 k1
              go_wp2
              go_roundw
              case rel => exact ⟨i + 1, by omega, by go_num, by rw [HV1.out]; exact HOWI.out, HBI.out, HLK.out⟩
              case measure => simp [intOf]; omega
          · have hin : i = m.bd.ps.length := by omega
            subst hin
            rw [lpSt_end] at hown
            have HOW2 := Lib.hid hown
            clear hown
            go_wp2
            go_roundw
            case rel => exact ⟨r + 1, by omega, by go_num, HOW2.out, hb⟩
            case measure => simp [intOf]; omega
      · have hrn : r = R := by omega
        subst hrn
        have HBW := Lib.hid (bl_trans HB2.out hb)
        have hown2 := own_mono (base := w.heap.size) HOWN.out (by omega)
        rw [← HRES.out] at hown2
        have HOW2 := Lib.hid hown2
        clear hown2
        go_wp2_with (go_at_call 80; refine (HRO.out _ HBW.out).mono ?_; rintro e w' ⟨rfl, rfl⟩)
        go_ret2
        exact ⟨_, rfl, HOW2.out, bl_trans HBA.out HBW.out⟩
  · have HC : Hid (mCode m = 1) := Lib.hid (by unfold mCode; rw [if_neg (by simp [g1])])
    have HL : Hid (lpVal m = []) := Lib.hid (by unfold lpVal; rw [if_neg (by simp [g1])])
    rw [HC.out, HL.out]
    rw [g1] at HOK
    clear g1 HC HL
    go_enter Tryz.func39, Tryz.ntmps39
    go_wp2_with fail
    refine HOK.out.mono ?_
    rintro e w1 ⟨rfl, hb1⟩
    have hb01 := bl_trans HBA.out hb1
    have hown := World.ownsRow_made (e := 2) (size := 1) w1 #[] 0 (Nat.le_refl _) (by simp [maxLen]) rfl
    have hown2 := own_mono (base := w.heap.size) hown hb01.size
    go_wp2
    go_ret2
    exact ⟨_, rfl, hown2, bl_alloc hb01⟩
end Go.Proofs.YtdhjhnbmecbaaaaGreat
/- Contracts: lateBy (program), one late input (both). -/
namespace Go.Proofs.YtdhjhnbmecbaaaaGreat
open Go.RowKit
set_option linter.unusedVariables false
set_option linter.unusedSimpArgs false
set_option maxHeartbeats 400000
set_option maxRecDepth 100000
/-- The rows of late times of a choice of inputs, the first i of them laid. -/
def lbSt (n ch : Nat) (by_ : Int) (i : Nat) : List Int := (List.range n).map (fun j => if j < i ∧ ch.testBit j = true then by_ else 0)
theorem lbSt_len (n ch : Nat) (b : Int) (i : Nat) : (lbSt n ch b i).length = n := by simp [lbSt]
theorem lbSt_get (n ch : Nat) (b : Int) (i j : Nat) (hj : j < n) : (lbSt n ch b i)[j]'(by rw [lbSt_len]; exact hj) = if j < i ∧ ch.testBit j = true then b else 0 := by simp [lbSt]
theorem lbSt_zero (n ch : Nat) (b : Int) : lbSt n ch b 0 = zeros n := by
  unfold lbSt zeros
  apply List.ext_getElem
  · simp
  · intro i h1 h2
    simp
theorem lbSt_yes (n ch : Nat) (b : Int) (i : Nat) (hi : i < n) (h : ch.testBit i = true) : (lbSt n ch b i).set i b = lbSt n ch b (i + 1) := by
  apply List.ext_getElem
  · simp [lbSt]
  · intro j h1 h2
    have hj : j < n := by rw [lbSt_len] at h2; exact h2
    rw [List.getElem_set, lbSt_get n ch b (i + 1) j hj]
    by_cases e : i = j
    · subst e; rw [if_pos rfl, if_pos ⟨by omega, h⟩]
    · rw [if_neg e, lbSt_get n ch b i j hj]
      by_cases h3 : j < i
      · have h4 : j < i + 1 := by omega
        simp [h3, h4]
      · have h4 : ¬ j < i + 1 := by omega
        simp [h3, h4]
theorem lbSt_no (n ch : Nat) (b : Int) (i : Nat) (h : ch.testBit i = false) : lbSt n ch b (i + 1) = lbSt n ch b i := by
  unfold lbSt
  apply List.map_congr_left
  intro j hj
  by_cases e : j = i
  · subst e; simp [h]
  · by_cases h3 : j < i
    · have h4 : j < i + 1 := by omega
      simp [h3, h4]
    · have h4 : ¬ j < i + 1 := by omega
      simp [h3, h4]
def lbList (n ch : Nat) (b : Int) : List Int := lbSt n ch b n
theorem lbList_len (n ch : Nat) (b : Int) : (lbList n ch b).length = n := lbSt_len _ _ _ _
theorem lbList_one (n i : Nat) (b : Int) (hi : i < n) : lbList n (2 ^ i) b = (zeros n).set i b := by
  apply List.ext_getElem
  · simp [lbList, lbSt, zeros]
  · intro j h1 h2
    have hj : j < n := by rw [lbList_len] at h1; exact h1
    have e1 : (lbList n (2 ^ i) b)[j] = if j < n ∧ (2 ^ i).testBit j = true then b else 0 := lbSt_get n (2 ^ i) b n j hj
    rw [e1, List.getElem_set, Nat.testBit_two_pow]
    by_cases e : i = j
    · subst e; simp [hj]
    · simp [e, zeros]
theorem lbList_ok (n ch : Nat) (b : Int) (hb : inB b 0 100 = true) : lateOk (lbList n ch b) := by
  intro i
  have h0 : 0 ≤ b ∧ b ≤ 100 := by unfold inB at hb; simpa using hb
  by_cases hi : i < n
  · rw [getD_n _ i (by rw [lbList_len]; exact hi)]
    have e : (lbList n ch b)[i]'(by rw [lbList_len]; exact hi) = if i < n ∧ ch.testBit i = true then b else 0 := lbSt_get n ch b n i hi
    rw [e]
    split <;> omega
  · rw [List.getD_eq_getElem?_getD, List.getElem?_eq_none (by rw [lbList_len]; omega)]
    exact ⟨Int.le_refl _, by decide⟩
theorem lateBy_any (n ch : Nat) (b : Int) (w : World) (hn : n ≤ 6) (hch : ch < 9223372036854775808) :
    Calls Tryz.prog 92 #[.int .i64 (n : Int), .int .i64 (ch : Int), .int .i64 b] w fun e w' => ∃ v, e = .returned v ∧ w'.ownsRow w.heap.size 2 1 v n (flat N64_cells (lbList n ch b)) ∧ Below w.heap.size w w' := by
  obtain ⟨i0, hi0, hiz0, hiz1, hiz2⟩ := info_parts Tryz.infoInt64
  have HLB : Hid (lbList n ch b = lbSt n ch b n) := Lib.hid rfl
  obtain ⟨L, hL⟩ : ∃ L, L = lbList n ch b := ⟨_, rfl⟩
  rw [← hL] at HLB ⊢
  clear hL
  go_enter Tryz.func92, Tryz.ntmps92
  go_wp2_with (refine wpList_make_full _ rfl (.tmp 9) (.tmp 9) 30 rfl w.heap.size 2 i0 _ 1 Tryz.underlying30 hi0 hiz0 hiz1 _ _ _ _ n rfl rfl rfl rfl (by rw [hiz2]; omega) (by unfold maxLen; omega) (Nat.le_refl _) ?_; intro w2 hmade hgrow)
  rw [made_rep _ rfl, ← flat_zeros, ← lbSt_zero n ch b] at hmade
  have hb2 : Below w.heap.size w w2 := bl_grown (Below.refl _ _) hgrow (by simp)
  clear hgrow
  go_loopw [13] (fun ix wr => ∃ i : Nat, i ≤ n ∧ ix = .int .i64 i ∧ wr.ownsRow w.heap.size 2 1 (.slice (some ⟨w.heap.size, 0, none⟩) n n) n (flat N64_cells (lbSt n ch b i)) ∧ Below w.heap.size w wr) (fun ix _ => n - (intOf ix).toNat)
  case atStart => exact ⟨0, by omega, rfl, hmade, hb2⟩
  case round =>
    clear hmade hb2
    obtain ⟨i, hi, rfl, hown, hb⟩ := hrel
    by_cases hlt : i < n
    · obtain ⟨k0, k1⟩ := n64_cell hown i (by rw [lbSt_len]; exact hlt)
      have HOWN := Lib.hid hown
      have HB := Lib.hid hb
      have hiI : (i : Int) < n := by omega
      have HBI := Lib.hid (fun w1 => bitI_any ch i (by omega) (by omega) w1)
      have HYES := Lib.hid (lbSt_yes n ch b i hlt)
      have HNO := Lib.hid (lbSt_no n ch b i)
      clear hown hb
      obtain ⟨o, k0⟩ : ∃ o, wr.cell? ⟨w.heap.size, i, none⟩ = some (.int .i64 o) := ⟨_, k0⟩
      cases gb : ch.testBit i with
      | true =>
        rw [gb] at HBI
        have HV := Lib.hid (HYES.out gb)
        clear gb
        go_wp2_with (go_at_call 115; refine (HBI.out _).mono ?_; rintro e w' ⟨rfl, rfl⟩)
        have how := n64_set HOWN.out i b
        rw [HV.out] at how
        go_roundw
        case rel => exact ⟨i + 1, by omega, by go_num, how, bl_set HB.out (Nat.le_refl _) _⟩
        case measure => simp [intOf]; omega
      | false =>
        rw [gb] at HBI
        have HV := Lib.hid (HNO.out gb)
        clear gb k1 k0
        go_wp2_with (go_at_call 115; refine (HBI.out _).mono ?_; rintro e w' ⟨rfl, rfl⟩)
        go_roundw
        case rel => exact ⟨i + 1, by omega, by go_num, by rw [HV.out]; exact HOWN.out, HB.out⟩
        case measure => simp [intOf]; omega
    · have hin : i = n := by omega
      subst hin
      rw [← HLB.out] at hown
      have HOWN := Lib.hid hown
      clear hown
      go_wp2
      go_ret
      exact ⟨_, rfl, HOWN.out, hb⟩
end Go.Proofs.YtdhjhnbmecbaaaaGreat
/- Contracts: HazardsIn (both). -/
namespace Go.Proofs.YtdhjhnbmecbaaaaGreat
open Go.RowKit
set_option linter.unusedVariables false
set_option linter.unusedSimpArgs false
set_option maxHeartbeats 400000
set_option maxRecDepth 100000
def hzTo (p : Nat → Bool) (k : Nat) : List Int := ((List.range k).filter p).map (fun (i : Nat) => (i : Int))
theorem hzTo_yes (p : Nat → Bool) (k : Nat) (h : p k = true) : hzTo p (k + 1) = hzTo p k ++ [(k : Int)] := by
  unfold hzTo
  rw [List.range_succ, List.filter_append, List.map_append]
  simp [h]
theorem hzTo_no (p : Nat → Bool) (k : Nat) (h : p k = false) : hzTo p (k + 1) = hzTo p k := by
  unfold hzTo
  rw [List.range_succ, List.filter_append, List.map_append]
  simp [h]
theorem hzTo_len (p : Nat → Bool) (k : Nat) : (hzTo p k).length ≤ k := by
  unfold hzTo
  rw [List.length_map]
  have := List.length_filter_le p (List.range k)
  simpa using this
noncomputable def hzCode (m : Mc) (row b : Int) : Int := if vMc m = true then (if (inB row 0 ((mRows m : Int) - 1) && inB b 0 100) = true then 0 else 2) else 1
noncomputable def hzP (m : Mc) (r : Nat) (b : Int) (i : Nat) : Bool := (mOut m r (lbList m.ins.length (2 ^ i) b) : Int) != (mOut m r (zeros m.ins.length) : Int)
noncomputable def hzList (m : Mc) (row b : Int) : List Int := if hzCode m row b = 0 then hzTo (hzP m row.toNat b) m.ins.length else []
theorem hzList_len (m : Mc) (row b : Int) : (hzList m row b).length ≤ m.ins.length := by
  unfold hzList; split; exact hzTo_len _ _; exact Nat.zero_le _
theorem l03Late_any (b : Int) (w : World) : Calls Tryz.prog 91 #[.int .i64 b] w fun e w' => e = .returned (.bool (inB b 0 100)) ∧ w = w' := by
  have H := Lib.hid (fun w => l00In_any b 0 100 w)
  go_enter Tryz.func91, Tryz.ntmps91
  go_wp2_with (go_at_call 82; refine (H.out _).mono ?_; rintro e w' ⟨rfl, rfl⟩)
  go_ret
  exact ⟨rfl, rfl⟩
set_option maxHeartbeats 1600000 in
theorem specHazardsIn_any (m : Mc) (v : Value) (row b : Int) (w : World) (h : MV w v m) (hok : m.ok) (hn : m.bd.ps.length ≤ 10000000) (hn1 : m.ins.length ≤ 10000000) (hn2 : m.outs.length ≤ 10000000) :
    Calls Tryz.prog 46 #[v, .int .i64 row, .int .i64 b] w fun e w' => ∃ v, e = .returned (.tuple #[v, .int .i64 (hzCode m row b)]) ∧ w'.ownsRow w.heap.size 2 1 v (hzList m row b).length (flat N64_cells (hzList m row b)) ∧ Below w.heap.size w w' := by
  obtain ⟨s, si, so, rfl, h0, ⟨ai, capi, rfl, h1⟩, h2⟩ := h
  have HM := Lib.hid (MP.new (m := m) (w := w) h0 ⟨ai, capi, rfl, h1⟩ h2 40)
  have HBA := Lib.hid (show Below w.heap.size w (w.alloc (.cells #[.int .i8 m.bd.wd, .int .i8 m.bd.hg, s, .slice ai m.ins.length capi, so] 40)) from bl_alloc (Below.refl _ _))
  have HXB := Lib.hid (BX5.new w (.int .i8 m.bd.wd) (.int .i8 m.bd.hg) s (.slice ai m.ins.length capi) so 40)
  have HOK := Lib.hid (l03Ok_any w.heap.size m _ HM.out hok hn hn1 hn2)
  rcases Bool.eq_false_or_eq_true (vMc m) with g1 | g1
  · obtain ⟨-, -, hi1, hi6, ho1, ho8, -⟩ := vMc_parts m g1
    have HRO := Lib.hid (fun w1 (hb : Below (w.alloc (.cells #[.int .i8 m.bd.wd, .int .i8 m.bd.hg, s, .slice ai m.ins.length capi, so] 40)).heap.size (w.alloc (.cells #[.int .i8 m.bd.wd, .int .i8 m.bd.hg, s, .slice ai m.ins.length capi, so] 40)) w1) => l03Rows_any w.heap.size m w1 (HM.out.step hb) hi6)
    have hR64 := mRows_le m hi6
    have HIN := Lib.hid (fun w1 => l00In_any row 0 ((mRows m : Int) - 1) w1)
    have HLT := Lib.hid (fun w1 => l03Late_any b w1)
    rw [g1] at HOK
    rcases Bool.eq_false_or_eq_true (inB row 0 ((mRows m : Int) - 1) && inB b 0 100) with g2 | g2
    · have HC : Hid (hzCode m row b = 0) := Lib.hid (by unfold hzCode; rw [if_pos g1, if_pos g2])
      have HL : Hid (hzList m row b = hzTo (hzP m row.toNat b) m.ins.length) := Lib.hid (by unfold hzList; rw [if_pos HC.out])
      have g2' := g2
      rw [Bool.and_eq_true] at g2'
      have HIN2 := Lib.hid (fun w1 => g2'.1 ▸ HIN.out w1)
      have HLT2 := Lib.hid (fun w1 => g2'.2 ▸ HLT.out w1)
      obtain ⟨r, hrr⟩ : ∃ r : Nat, row = (r : Int) ∧ r < mRows m := ⟨row.toNat, by have h9 := g2'.1; unfold inB at h9; simp at h9; omega, by have h9 := g2'.1; unfold inB at h9; simp at h9; omega⟩
      obtain ⟨rfl, hr⟩ := hrr
      have HL2 : Hid (hzList m (r : Int) b = hzTo (hzP m r b) m.ins.length) := Lib.hid (by rw [HL.out]; rfl)
      rw [HC.out, HL2.out]
      have HOU := Lib.hid (fun w1 (hb : Below (w.alloc (.cells #[.int .i8 m.bd.wd, .int .i8 m.bd.hg, s, .slice ai m.ins.length capi, so] 40)).heap.size (w.alloc (.cells #[.int .i8 m.bd.wd, .int .i8 m.bd.hg, s, .slice ai m.ins.length capi, so] 40)) w1) (L : List Int) (hl : L.length = m.ins.length) (hlo : lateOk L) a (hs : SlAt w1.heap.size w1 a (flat N64_cells L)) => l03Outputs_any (B := w1.heap.size) w.heap.size m r a m.ins.length L w1 (HM.out.step hb) g1 hok hl hlo hs (Nat.le_refl _) (by omega))
      have HLO := Lib.hid (fun i => lbList_ok m.ins.length (2 ^ i) b g2'.2)
      have HPE : Hid (∀ i, hzP m r b i = ((mOut m r (lbList m.ins.length (2 ^ i) b) : Int) != (mOut m r (zeros m.ins.length) : Int))) := Lib.hid (fun i => rfl)
      obtain ⟨R, hRR⟩ : ∃ R, R = mRows m := ⟨_, rfl⟩
      rw [← hRR] at HRO HIN2 hR64
      obtain ⟨p, hp⟩ : ∃ p, p = hzP m r b := ⟨_, rfl⟩
      rw [← hp] at HPE ⊢
      obtain ⟨f, hf⟩ : ∃ f : List Int → Nat, f = mOut m r := ⟨_, rfl⟩
      rw [← hf] at HOU HPE
      have HLN := Lib.hid (hzTo_len p)
      clear hRR hp hf HIN HLT HC HL HL2 g1 g2 g2'
      obtain ⟨i0, hi0, hiz0, hiz1, hiz2⟩ := info_parts Tryz.infoInt64
      go_enter Tryz.func46, Tryz.ntmps46
      go_wp2_with fail
      refine HOK.out.mono ?_
      rintro e w1 ⟨rfl, hb1⟩
      have HB1 := Lib.hid hb1
      have X1 := HXB.out.step hb1
      obtain ⟨X0, -, -, -, x3, -⟩ := X1
      clear hb1
      go_wp2_with (first | (go_at_call 80; refine (HRO.out _ HB1.out).mono ?_; rintro e w' ⟨rfl, rfl⟩) | (go_at_call 82; refine (HIN2.out _).mono ?_; rintro e w' ⟨rfl, rfl⟩) | (go_at_call 91; refine (HLT2.out _).mono ?_; rintro e w' ⟨rfl, rfl⟩) | (refine wpList_make_full _ rfl (.tmp 29) (.tmp 29) 30 rfl w1.heap.size 2 i0 _ 1 Tryz.underlying30 hi0 hiz0 hiz1 _ _ _ _ m.ins.length rfl rfl rfl rfl (by rw [hiz2]; omega) (by unfold maxLen; omega) (Nat.le_refl _) ?_; intro w2 hmade hgrow))
      rw [made_rep _ rfl, ← flat_zeros] at hmade
      have hb2 : Below w1.heap.size w1 w2 := bl_grown (Below.refl _ _) hgrow (by simp)
      have HB2 := Lib.hid (bl_trans HB1.out hb2)
      have y3 : w2.cell? ⟨w.heap.size, 3, none⟩ = some (.slice ai m.ins.length capi) := by rw [hb2.cell (p := ⟨w.heap.size, 3, none⟩) X0]; exact x3
      have hq2 : w.heap.size < w2.heap.size := Nat.lt_of_lt_of_le X0 hb2.size
      have HOC := Lib.hid (HOU.out w2 HB2.out (zeros m.ins.length) (by simp [zeros]) (zeros_ok _) _ (own_sl hmade))
      clear hmade hgrow hb2 x3 X0
      refine HOC.out.mono ?_
      rintro e w3 ⟨rfl, hb3⟩
      have HB3 := Lib.hid (bl_trans HB2.out hb3)
      have z3 : w3.cell? ⟨w.heap.size, 3, none⟩ = some (.slice ai m.ins.length capi) := by rw [hb3.cell (p := ⟨w.heap.size, 3, none⟩) hq2]; exact y3
      have hq3 : w.heap.size < w3.heap.size := Nat.lt_of_lt_of_le hq2 hb3.size
      have hown0 := World.ownsRow_made (e := 2) (size := 1) w3 #[] 0 (Nat.le_refl _) (by simp [maxLen]) rfl
      have hb0 : Below w3.heap.size w3 (w3.alloc (.cells #[] 2)) := bl_alloc (Below.refl _ _)
      obtain ⟨P, hP⟩ : ∃ P : Int, P = ((f (zeros m.ins.length) : Nat) : Int) := ⟨_, rfl⟩
      rw [← hP] at HPE ⊢
      have HO0 := Lib.hid hown0
      have HBO := Lib.hid hb0
      clear hb3 y3 hq2 HOC hP hown0 hb0
      go_wp2
      go_loopw [9, 10] (fun v ix wr => ∃ i : Nat, i ≤ m.ins.length ∧ ix = .int .i64 i ∧ wr.ownsRow w3.heap.size 2 1 v (hzTo p i).length (flat N64_cells (hzTo p i)) ∧ Below w3.heap.size w3 wr) (fun _ ix _ => m.ins.length - (intOf ix).toNat)
      case atStart => exact ⟨0, by omega, rfl, HO0.out, HBO.out⟩
      case round =>
        obtain ⟨i, hi, rfl, hown, hb⟩ := hrel
        obtain ⟨av2, capv2, hve, -, -, -⟩ := own_at hown
        subst hve
        have HOWN := Lib.hid hown
        have hzb := hb.size
        have HBB := Lib.hid hb
        have HBW := Lib.hid (bl_trans HB3.out hb)
        have r3 : wr.cell? ⟨w.heap.size, 3, none⟩ = some (.slice ai m.ins.length capi) := by rw [hb.cell (p := ⟨w.heap.size, 3, none⟩) hq3]; exact z3
        have hle := HLN.out i
        obtain ⟨nn, hnn⟩ : ∃ nn, nn = (hzTo p i).length := ⟨_, rfl⟩
        rw [← hnn] at HOWN hle ⊢
        have HNN := Lib.hid hnn
        clear hown hb hnn
        by_cases hlt : i < m.ins.length
        · have hiI : (i : Int) < m.ins.length := by omega
          have HL1 := Lib.hid (lbList_one m.ins.length i b hlt)
          have HPI := Lib.hid (HPE.out i)
          have HLB := Lib.hid (lbList_len m.ins.length (2 ^ i) b)
          have HLK := Lib.hid (HLO.out i)
          obtain ⟨L, hL⟩ : ∃ L, L = lbList m.ins.length (2 ^ i) b := ⟨_, rfl⟩
          rw [← hL] at HL1 HPI HLB HLK
          clear hL
          go_wp2_with (refine wpList_make_full _ rfl (.tmp 42) (.tmp 42) 30 rfl wr.heap.size 2 i0 _ 1 Tryz.underlying30 hi0 hiz0 hiz1 _ _ _ _ m.ins.length rfl rfl rfl rfl (by rw [hiz2]; omega) (by unfold maxLen; omega) (Nat.le_refl _) ?_; intro w5 hmade hgrow; rw [made_rep _ rfl, ← flat_zeros] at hmade; obtain ⟨kz, kf⟩ := n64_cell hmade i (by simp [zeros]; omega); obtain ⟨o, kz⟩ : ∃ o, w5.cell? ⟨wr.heap.size, i, none⟩ = some (.int .i64 o) := ⟨_, kz⟩)
          have hb5 : Below wr.heap.size wr w5 := bl_grown (Below.refl _ _) hgrow (by simp)
          have how := n64_set hmade i b
          rw [← HL1.out] at how
          have hb6 : Below wr.heap.size wr (w5.setCell ⟨wr.heap.size, i, none⟩ (.int .i64 b)) := bl_set hb5 (Nat.le_refl _) _
          have HOC := Lib.hid (HOU.out _ (bl_trans HBW.out hb6) L HLB.out HLK.out _ (own_sl how))
          have HB6 := Lib.hid hb6
          clear hb5 how hb6 kz kf hmade hgrow
          refine HOC.out.mono ?_
          rintro e w7 ⟨rfl, hb7⟩
          have HB7 := Lib.hid (bl_trans HB6.out hb7)
          clear hb7 HOC
          obtain ⟨F, hF⟩ : ∃ F : Int, F = ((f L : Nat) : Int) := ⟨_, rfl⟩
          rw [← hF] at HPI ⊢
          have HO7 := Lib.hid (own_below HOWN.out HB7.out (Nat.le_refl _))
          have HBB7 := Lib.hid (bl_trans HBB.out HB7.out)
          have hz7 := HBB7.out.size
          clear hF
          rcases Bool.eq_false_or_eq_true (F != P) with gp | gp
          · have HY : Hid (hzTo p (i + 1) = hzTo p i ++ [(i : Int)]) := Lib.hid (hzTo_yes p i (by rw [HPI.out]; exact gp))
            go_wp2_with (at_builtin; go_must (refine wpList_append_sl _ rfl _ _ 30 rfl w3.heap.size 2 i0 (.int .i64 0) 1 8 Tryz.underlying30 hi0 hiz0 hiz1 hiz2 rfl (by decide) _ _ _ rfl (own_below HO7.out (bl_alloc (Below.refl _ _)) (Nat.le_refl _)) (some ⟨w7.heap.size, 0, none⟩) 1 1 [.int .i64 (i : Int)] rfl (sl_newC w7 #[.int .i64 (i : Int)] 2 _ rfl) rfl (by intro u hu; rw [List.mem_singleton] at hu; subst hu; rfl) (by unfold maxLen; omega) (by omega) (by simp; omega) ?_); intro v4 w8 hown3 hgrow; obtain ⟨g4, cap4, rfl, hg4⟩ := own_some hown3)
            have hb8 : Below w3.heap.size w3 w8 := (bl_alloc (o := .cells #[.int .i64 (i : Int)] 2) HBB7.out).grown hgrow (by simp; omega) (fun q hq => (HO7.out.lt q hq).1)
            have hown5 : w8.ownsRow w3.heap.size 2 1 (.slice (some ⟨g4, 0, none⟩) (nn + 1) cap4) (hzTo p (i + 1)).length (flat N64_cells (hzTo p (i + 1))) := by
              rw [HY.out, flat_append, List.length_append, ← HNN.out]; exact hown3
            go_roundw
            case rel => exact ⟨i + 1, by omega, by go_num, hown5, hb8⟩
            case measure => simp [intOf]; omega
          · have HY : Hid (hzTo p (i + 1) = hzTo p i) := Lib.hid (hzTo_no p i (by rw [HPI.out]; exact gp))
            go_wp2
            go_roundw
            case rel => exact ⟨i + 1, by omega, by go_num, by rw [HY.out, ← HNN.out]; exact HO7.out, HBB7.out⟩
            case measure => simp [intOf]; omega
        · have hin : i = m.ins.length := by omega
          have HIE := Lib.hid hin
          have hown2 := own_mono (base := w.heap.size) HOWN.out (Nat.le_of_lt hq3)
          have HOW2 := Lib.hid hown2
          clear hown2
          subst hin
          go_wp2
          go_ret2
          exact ⟨_, rfl, by rw [← HNN.out]; exact HOW2.out, bl_trans HBA.out HBW.out⟩
    · have HC : Hid (hzCode m row b = 2) := Lib.hid (by unfold hzCode; rw [if_pos g1, if_neg (by simp [g2])])
      have HL : Hid (hzList m row b = []) := Lib.hid (by unfold hzList; rw [if_neg (by rw [HC.out]; omega)])
      rw [HC.out, HL.out]
      obtain ⟨R, hRR⟩ : ∃ R, R = mRows m := ⟨_, rfl⟩
      rw [← hRR] at HRO HIN hR64 g2
      clear hRR HC HL g1
      cases g3 : inB row 0 ((R : Int) - 1) with
      | false =>
        have HIN2 := Lib.hid (fun w1 => g3 ▸ HIN.out w1)
        clear g2 g3 HIN HLT
        go_enter Tryz.func46, Tryz.ntmps46
        go_wp2_with fail
        refine HOK.out.mono ?_
        rintro e w1 ⟨rfl, hb1⟩
        have hb01 := bl_trans HBA.out hb1
        have HB1 := Lib.hid hb1
        have hown := World.ownsRow_made (e := 2) (size := 1) w1 #[] 0 (Nat.le_refl _) (by simp [maxLen]) rfl
        have hown2 := own_mono (base := w.heap.size) hown hb01.size
        have HRET := Lib.hid (And.intro hown2 (bl_alloc (o := .cells #[] 2) hb01))
        clear hb1 hb01 hown hown2
        go_wp2_with (first | (go_at_call 80; refine (HRO.out _ HB1.out).mono ?_; rintro e w' ⟨rfl, rfl⟩) | (go_at_call 82; refine (HIN2.out _).mono ?_; rintro e w' ⟨rfl, rfl⟩))
        go_ret2
        exact ⟨_, rfl, HRET.out.1, HRET.out.2⟩
      | true =>
        rw [g3, Bool.true_and] at g2
        have HIN2 := Lib.hid (fun w1 => g3 ▸ HIN.out w1)
        have HLT2 := Lib.hid (fun w1 => g2 ▸ HLT.out w1)
        clear g2 g3 HIN HLT
        go_enter Tryz.func46, Tryz.ntmps46
        go_wp2_with fail
        refine HOK.out.mono ?_
        rintro e w1 ⟨rfl, hb1⟩
        have hb01 := bl_trans HBA.out hb1
        have HB1 := Lib.hid hb1
        have hown := World.ownsRow_made (e := 2) (size := 1) w1 #[] 0 (Nat.le_refl _) (by simp [maxLen]) rfl
        have hown2 := own_mono (base := w.heap.size) hown hb01.size
        have HRET := Lib.hid (And.intro hown2 (bl_alloc (o := .cells #[] 2) hb01))
        clear hb1 hb01 hown hown2
        go_wp2_with (first | (go_at_call 80; refine (HRO.out _ HB1.out).mono ?_; rintro e w' ⟨rfl, rfl⟩) | (go_at_call 82; refine (HIN2.out _).mono ?_; rintro e w' ⟨rfl, rfl⟩) | (go_at_call 91; refine (HLT2.out _).mono ?_; rintro e w' ⟨rfl, rfl⟩))
        go_ret2
        exact ⟨_, rfl, HRET.out.1, HRET.out.2⟩
  · have HC : Hid (hzCode m row b = 1) := Lib.hid (by unfold hzCode; rw [if_neg (by simp [g1])])
    have HL : Hid (hzList m row b = []) := Lib.hid (by unfold hzList; rw [if_neg (by rw [HC.out]; omega)])
    rw [HC.out, HL.out]
    rw [g1] at HOK
    clear g1 HC HL
    go_enter Tryz.func46, Tryz.ntmps46
    go_wp2_with fail
    refine HOK.out.mono ?_
    rintro e w1 ⟨rfl, hb1⟩
    have hb01 := bl_trans HBA.out hb1
    have hown := World.ownsRow_made (e := 2) (size := 1) w1 #[] 0 (Nat.le_refl _) (by simp [maxLen]) rfl
    have hown2 := own_mono (base := w.heap.size) hown hb01.size
    go_wp2
    go_ret2
    exact ⟨_, rfl, hown2, bl_alloc hb01⟩
end Go.Proofs.YtdhjhnbmecbaaaaGreat
/- Contracts: HazardsIn (the program). -/
namespace Go.Proofs.YtdhjhnbmecbaaaaGreat
open Go.RowKit
set_option linter.unusedVariables false
set_option linter.unusedSimpArgs false
set_option maxHeartbeats 400000
set_option maxRecDepth 100000
set_option maxHeartbeats 1600000 in
theorem hazardsIn_any (m : Mc) (v : Value) (row b : Int) (w : World) (h : MVc w v m) (hok : m.ok) (hn : m.bd.ps.length ≤ 10000000) (hn1 : m.ins.length ≤ 10000000) (hn2 : m.outs.length ≤ 10000000) :
    Calls Tryz.prog 47 #[v, .int .i64 row, .int .i64 b] w fun e w' => ∃ v, e = .returned (.tuple #[v, .int .i64 (hzCode m row b)]) ∧ w'.ownsRow w.heap.size 2 1 v (hzList m row b).length (flat N64_cells (hzList m row b)) ∧ Below w.heap.size w w' := by
  have HVM := Lib.hid (fun w1 (hb : Below w.heap.size w w1) => validMachine_any m v w1 (h.step hb) hok hn hn1 hn2)
  obtain ⟨sa, scap, ia, icap, oa, ocap, rfl, hcap, hps, hins, houts⟩ := h
  have HM := Lib.hid (MP.new (m := m) (w := w) ⟨sa, scap, rfl, hps⟩ ⟨ia, icap, rfl, hins⟩ ⟨oa, ocap, rfl, houts⟩ 40)
  have HBA := Lib.hid (show Below w.heap.size w (w.alloc (.cells #[.int .i8 m.bd.wd, .int .i8 m.bd.hg, .slice sa m.bd.ps.length scap, .slice ia m.ins.length icap, .slice oa m.outs.length ocap] 40)) from bl_alloc (Below.refl _ _))
  have HXB := Lib.hid (BX5.new w (.int .i8 m.bd.wd) (.int .i8 m.bd.hg) (.slice sa m.bd.ps.length scap) (.slice ia m.ins.length icap) (.slice oa m.outs.length ocap) 40)
  rcases Bool.eq_false_or_eq_true (vMc m) with g1 | g1
  · obtain ⟨-, -, hi1, hi6, ho1, ho8, -⟩ := vMc_parts m g1
    have HIR := Lib.hid (fun w1 => rows_any m.ins.length (by omega) w1)
    have HRE : Hid (((2 ^ m.ins.length : Nat) : Int) = ((mRows m : Nat) : Int)) := Lib.hid rfl
    rw [HRE.out] at HIR
    have hR64 := mRows_le m hi6
    have HIN := Lib.hid (fun w1 => in_any row 0 ((mRows m : Int) - 1) w1)
    have HLT := Lib.hid (fun w1 => in_any b 0 100 w1)
    rw [g1] at HVM
    rcases Bool.eq_false_or_eq_true (inB row 0 ((mRows m : Int) - 1) && inB b 0 100) with g2 | g2
    · have HC : Hid (hzCode m row b = 0) := Lib.hid (by unfold hzCode; rw [if_pos g1, if_pos g2])
      have HL : Hid (hzList m row b = hzTo (hzP m row.toNat b) m.ins.length) := Lib.hid (by unfold hzList; rw [if_pos HC.out])
      have g2' := g2
      rw [Bool.and_eq_true] at g2'
      have g3 := g2'.1
      have g4 := g2'.2
      obtain ⟨r, hrr⟩ : ∃ r : Nat, row = (r : Int) ∧ r < mRows m := ⟨row.toNat, by have h9 := g2'.1; unfold inB at h9; simp at h9; omega, by have h9 := g2'.1; unfold inB at h9; simp at h9; omega⟩
      obtain ⟨rfl, hr⟩ := hrr
      have HL2 : Hid (hzList m (r : Int) b = hzTo (hzP m r b) m.ins.length) := Lib.hid (by rw [HL.out]; rfl)
      rw [HC.out, HL2.out]
      have HWK := Lib.hid (fun w1 (hb : Below (w.alloc (.cells #[.int .i8 m.bd.wd, .int .i8 m.bd.hg, .slice sa m.bd.ps.length scap, .slice ia m.ins.length icap, .slice oa m.outs.length ocap] 40)).heap.size (w.alloc (.cells #[.int .i8 m.bd.wd, .int .i8 m.bd.hg, .slice sa m.bd.ps.length scap, .slice ia m.ins.length icap, .slice oa m.outs.length ocap] 40)) w1) => worksOf_any w.heap.size m w1 (HM.out.step hb) g1 hok)
      have HO0 := Lib.hid (fun w1 g (hw : WkAt w1 g w.heap.size m) => woutputs_any g w.heap.size m r (.slice none 0 0) (zeros m.ins.length) w1 hw g1 hok (LateV.nil w1 _) (by omega))
      have HOU := Lib.hid (fun w1 g (hw : WkAt w1 g w.heap.size m) (L : List Int) (hl : L.length = m.ins.length) (hlo : lateOk L) al capl (hs : SlAt w1.heap.size w1 al (flat N64_cells L)) => woutputs_any g w.heap.size m r (.slice al m.ins.length capl) L w1 hw g1 hok (by have h9 := lateV_of (capl := capl) hs hl hi1 hlo; rwa [hl] at h9) (by omega))
      have HLO := Lib.hid (fun i => lbList_ok m.ins.length (2 ^ i) b g2'.2)
      have HPE : Hid (∀ i, hzP m r b i = ((mOut m r (lbList m.ins.length (2 ^ i) b) : Int) != (mOut m r (zeros m.ins.length) : Int))) := Lib.hid (fun i => rfl)
      obtain ⟨R, hRR⟩ : ∃ R, R = mRows m := ⟨_, rfl⟩
      rw [← hRR] at HIR g3 hR64
      have hR1 : 1 ≤ R := by rw [hRR]; omega
      obtain ⟨p, hp⟩ : ∃ p, p = hzP m r b := ⟨_, rfl⟩
      rw [← hp] at HPE ⊢
      obtain ⟨f, hf⟩ : ∃ f : List Int → Nat, f = mOut m r := ⟨_, rfl⟩
      rw [← hf] at HOU HO0 HPE
      have HLN := Lib.hid (hzTo_len p)
      clear hRR hp hf HC HL HL2 g1 g2 g2' HRE HIN HLT
      obtain ⟨i0, hi0, hiz0, hiz1, hiz2⟩ := info_parts Tryz.infoInt64
      go_enter Tryz.func47, Tryz.ntmps47
      go_wp2_with fail
      refine (HVM.out _ HBA.out).mono ?_
      rintro e w1 ⟨rfl, hb1⟩
      have HB1 := Lib.hid hb1
      obtain ⟨X0, -, -, -, x3, -⟩ := HXB.out.step hb1
      clear hb1
      go_wp2_with (first | (go_at_call 85; refine (HIR.out _).mono ?_; rintro e w' ⟨rfl, rfl⟩) | (go_at_call 84; refine (in_any _ _ _ _).mono ?_; rintro e w' ⟨rfl, rfl⟩))
      refine (HWK.out w1 HB1.out).mono ?_
      rintro e w2 ⟨g, rfl, hg, hwk, hb2⟩
      have HB2 := Lib.hid (bl_trans HB1.out hb2)
      have y3 : w2.cell? ⟨w.heap.size, 3, none⟩ = some (.slice ia m.ins.length icap) := by rw [hb2.cell (p := ⟨w.heap.size, 3, none⟩) X0]; exact x3
      have hq2 : w.heap.size < w2.heap.size := Nat.lt_of_lt_of_le X0 hb2.size
      have HBX := Lib.hid (show Below w2.heap.size w2 (w2.alloc (.cells #[] 2)) from bl_alloc (Below.refl _ _))
      have hown0 := World.ownsRow_made (e := 2) (size := 1) w2 #[] 0 (Nat.le_refl _) (by simp [maxLen]) rfl
      have HOC := Lib.hid (HO0.out (w2.alloc (.cells #[] 2)) g (hwk.step HBX.out))
      have HW2 := Lib.hid hwk
      have hgl2 := hwk.1
      clear hwk hb2 x3 X0 HWK
      go_wp2_with fail
      refine HOC.out.mono ?_
      rintro e w3 ⟨rfl, hb3⟩
      have hb23 := bl_trans HBX.out hb3
      have HB3 := Lib.hid (bl_trans HB2.out hb23)
      have z3 : w3.cell? ⟨w.heap.size, 3, none⟩ = some (.slice ia m.ins.length icap) := by rw [hb23.cell (p := ⟨w.heap.size, 3, none⟩) hq2]; exact y3
      have HO1 := Lib.hid (own_below hown0 hb3 (Nat.le_refl _))
      have HB23 := Lib.hid hb23
      obtain ⟨P, hP⟩ : ∃ P : Int, P = ((f (zeros m.ins.length) : Nat) : Int) := ⟨_, rfl⟩
      rw [← hP] at HPE ⊢
      clear hb3 hb23 hown0 HOC y3 hP
      go_wp2
      go_loopw [9, 38] (fun v ix wr => ∃ i : Nat, i ≤ m.ins.length ∧ ix = .int .i64 i ∧ wr.ownsRow w2.heap.size 2 1 v (hzTo p i).length (flat N64_cells (hzTo p i)) ∧ Below w2.heap.size w2 wr) (fun _ ix _ => m.ins.length - (intOf ix).toNat)
      case atStart => exact ⟨0, by omega, rfl, HO1.out, HB23.out⟩
      case round =>
        obtain ⟨i, hi, rfl, hown, hb⟩ := hrel
        obtain ⟨av2, capv2, hve, -, -, -⟩ := own_at hown
        subst hve
        have HOWN := Lib.hid hown
        have hzb := hb.size
        have HBB := Lib.hid hb
        have HWR := Lib.hid (HW2.out.step hb)
        have hle := HLN.out i
        obtain ⟨nn, hnn⟩ : ∃ nn, nn = (hzTo p i).length := ⟨_, rfl⟩
        rw [← hnn] at HOWN hle ⊢
        have HNN := Lib.hid hnn
        by_cases hlt : i < m.ins.length
        · have hiI : (i : Int) < m.ins.length := by omega
          have HPI := Lib.hid (HPE.out i)
          have HLB := Lib.hid (lbList_len m.ins.length (2 ^ i) b)
          have HLK := Lib.hid (HLO.out i)
          obtain ⟨q, hq, hq1, hq2', hq3⟩ := pow_i i (by omega)
          have HCK := Lib.hid (fun w1 => lateBy_any m.ins.length (2 ^ i) b w1 (by omega) (by omega))
          rw [← hq3] at HCK
          obtain ⟨L, hL⟩ : ∃ L, L = lbList m.ins.length (2 ^ i) b := ⟨_, rfl⟩
          rw [← hL] at HPI HLB HLK HCK
          have HCL := Lib.hid (fun w1 al capl (hb1 : Below wr.heap.size wr w1) (hs : SlAt w1.heap.size w1 al (flat N64_cells L)) => HOU.out w1 g (HWR.out.step hb1) L HLB.out HLK.out al capl hs)
          obtain ⟨hgl, c0, -, ⟨ah, caph, c2, -⟩, -⟩ := HWR.out
          obtain ⟨F, hF⟩ : ∃ F : Int, F = ((f L : Nat) : Int) := ⟨_, rfl⟩
          rw [← hF] at HPI HCL
          clear hown hb hnn hL hF hq3
          have hwq : IntKind.i64.wrap q = q := wrap_i64' q (by omega) (by omega)
          go_wp2_with fail
          go_region_held3 (fun w' => Below wr.heap.size wr w' ∧ ∀ b o, b < wr.heap.size → w'.cell? ⟨b, o, none⟩ = wr.cell? ⟨b, o, none⟩) ((refine ext_s ?_; exact (by repeat (first | with_reducible exact Below.refl _ _ | with_reducible assumption | with_reducible apply bl_drewN | with_reducible apply bl_drew | with_reducible apply bl_alloc | (with_reducible refine bl_set ?_ (by first | (simp; done) | (simp; omega)) _) | with_reducible refine bl_trans ?_ (by with_reducible assumption))))) (first | (go_at_call 92; refine (HCK.out _).mono ?_; rintro e wa ⟨va, rfl, Oa, ba⟩; obtain ⟨al, capl, rfl, hsl, -⟩ := own_at Oa; have bwa : Below wr.heap.size wr wa := (by repeat (first | with_reducible exact Below.refl _ _ | with_reducible assumption | with_reducible apply bl_drewN | with_reducible apply bl_drew | with_reducible apply bl_alloc | (with_reducible refine bl_set ?_ (by first | (simp; done) | (simp; omega)) _) | with_reducible refine bl_trans ?_ (by with_reducible assumption))); obtain ⟨hca, hfa⟩ := bcell bwa) | (go_at_call 67; refine (HCL.out _ _ _ bwa hsl).mono ?_; rintro e w7 ⟨rfl, hb7⟩; have bw7 : Below wr.heap.size wr w7 := bl_trans bwa hb7))
          have HBB7 := Lib.hid (bl_trans HBB.out bw7)
          have HO7 := Lib.hid (own_below HOWN.out bw7 (Nat.le_refl _))
          have hz7 := HBB7.out.size
          rcases Bool.eq_false_or_eq_true (F != P) with gp | gp
          · have HY : Hid (hzTo p (i + 1) = hzTo p i ++ [(i : Int)]) := Lib.hid (hzTo_yes p i (by rw [HPI.out]; exact gp))
            go_wp2_with (at_builtin; go_must (refine wpList_append_sl _ rfl _ _ 30 rfl w2.heap.size 2 i0 (.int .i64 0) 1 8 Tryz.underlying30 hi0 hiz0 hiz1 hiz2 rfl (by decide) _ _ _ rfl (own_below HO7.out (bl_alloc (Below.refl _ _)) (Nat.le_refl _)) (some ⟨w7.heap.size, 0, none⟩) 1 1 [.int .i64 (i : Int)] rfl (sl_newC w7 #[.int .i64 (i : Int)] 2 _ rfl) rfl (by intro u hu; rw [List.mem_singleton] at hu; subst hu; rfl) (by unfold maxLen; omega) (by omega) (by simp; omega) ?_); intro v4 w8 hown3 hgrow; obtain ⟨g4, cap4, rfl, hg4⟩ := own_some hown3)
            have hb8 : Below w2.heap.size w2 w8 := (bl_alloc (o := .cells #[.int .i64 (i : Int)] 2) HBB7.out).grown hgrow (by simp; omega) (fun q hq => (HO7.out.lt q hq).1)
            have hown5 : w8.ownsRow w2.heap.size 2 1 (.slice (some ⟨g4, 0, none⟩) (nn + 1) cap4) (hzTo p (i + 1)).length (flat N64_cells (hzTo p (i + 1))) := by
              rw [HY.out, flat_append, List.length_append, ← HNN.out]; exact hown3
            go_roundw
            case rel => exact ⟨i + 1, by omega, by go_num, hown5, hb8⟩
            case measure => simp [intOf]; omega
          · have HY : Hid (hzTo p (i + 1) = hzTo p i) := Lib.hid (hzTo_no p i (by rw [HPI.out]; exact gp))
            go_wp2
            go_roundw
            case rel => exact ⟨i + 1, by omega, by go_num, by rw [HY.out, ← HNN.out]; exact HO7.out, HBB7.out⟩
            case measure => simp [intOf]; omega
        · have hin : i = m.ins.length := by omega
          have hown2 := own_mono (base := w.heap.size) HOWN.out (Nat.le_of_lt hq2)
          have HOW2 := Lib.hid hown2
          clear hown2 hown hnn
          subst hin
          go_wp2
          go_ret2
          exact ⟨_, rfl, by rw [← HNN.out]; exact HOW2.out, bl_trans HBA.out (bl_trans HB2.out HBB.out)⟩
    · have HC : Hid (hzCode m row b = 2) := Lib.hid (by unfold hzCode; rw [if_pos g1, if_neg (by simp [g2])])
      have HL : Hid (hzList m row b = []) := Lib.hid (by unfold hzList; rw [if_neg (by rw [HC.out]; omega)])
      rw [HC.out, HL.out]
      obtain ⟨R, hRR⟩ : ∃ R, R = mRows m := ⟨_, rfl⟩
      rw [← hRR] at HIR hR64 g2
      have hR1 : 1 ≤ R := by rw [hRR]; exact Nat.one_le_two_pow
      clear hRR HC HL g1 HRE HIN HLT
      cases g3 : inB row 0 ((R : Int) - 1) with
      | false =>
        clear g2
        go_enter Tryz.func47, Tryz.ntmps47
        go_wp2_with fail
        refine (HVM.out _ HBA.out).mono ?_
        rintro e w1 ⟨rfl, hb1⟩
        have HB1 := Lib.hid (bl_trans HBA.out hb1)
        obtain ⟨X0, -, -, -, x3, -⟩ := HXB.out.step hb1
        clear hb1
        go_wp2_with (first | (go_at_call 85; refine (HIR.out _).mono ?_; rintro e w' ⟨rfl, rfl⟩) | (go_at_call 84; refine (in_any _ _ _ _).mono ?_; rintro e w' ⟨rfl, rfl⟩))
        go_ret2
        exact ⟨_, rfl, World.ownsRow_nil _ _ _ _, HB1.out⟩
      | true =>
        rw [g3, Bool.true_and] at g2
        go_enter Tryz.func47, Tryz.ntmps47
        go_wp2_with fail
        refine (HVM.out _ HBA.out).mono ?_
        rintro e w1 ⟨rfl, hb1⟩
        have HB1 := Lib.hid (bl_trans HBA.out hb1)
        obtain ⟨X0, -, -, -, x3, -⟩ := HXB.out.step hb1
        clear hb1
        go_wp2_with (first | (go_at_call 85; refine (HIR.out _).mono ?_; rintro e w' ⟨rfl, rfl⟩) | (go_at_call 84; refine (in_any _ _ _ _).mono ?_; rintro e w' ⟨rfl, rfl⟩))
        go_ret2
        exact ⟨_, rfl, World.ownsRow_nil _ _ _ _, HB1.out⟩
  · have HC : Hid (hzCode m row b = 1) := Lib.hid (by unfold hzCode; rw [if_neg (by simp [g1])])
    have HL : Hid (hzList m row b = []) := Lib.hid (by unfold hzList; rw [if_neg (by rw [HC.out]; omega)])
    rw [HC.out, HL.out]
    rw [g1] at HVM
    clear g1 HC HL
    go_enter Tryz.func47, Tryz.ntmps47
    go_wp2_with fail
    refine (HVM.out _ HBA.out).mono ?_
    rintro e w1 ⟨rfl, hb1⟩
    have hb01 := bl_trans HBA.out hb1
    go_wp2
    go_ret2
    exact ⟨_, rfl, World.ownsRow_nil _ _ _ _, hb01⟩
end Go.Proofs.YtdhjhnbmecbaaaaGreat
/- The walk of the law FnExactHazardsIn. -/
namespace Go.Proofs.YtdhjhnbmecbaaaaGreat
open Go.RowKit
set_option linter.unusedVariables false
set_option linter.unusedSimpArgs false
set_option maxHeartbeats 400000
set_option maxRecDepth 100000
set_option maxRecDepth 100000 in
theorem lawHazardsIn_any (mc : Mc) (a a1 a2 : Option Addr) (cap cap1 cap2 : Nat) (row : Int) (bt : Int) (w : World) (h0 : PcsAt w.heap.size w a mc.bd.ps) (h1 : SlAt w.heap.size w a1 (flat Po.cells mc.ins)) (h2 : SlAt w.heap.size w a2 (flat Ce.cells mc.outs)) (hok : mc.ok)
    (l0 : mc.bd.ps.length ≤ 9223372036854775807) (l1 : mc.ins.length ≤ 9223372036854775807) (l2 : mc.outs.length ≤ 9223372036854775807) :
    Calls Tryz.prog 11 #[mcv mc.bd.wd mc.bd.hg (.slice a mc.bd.ps.length cap) (.slice a1 mc.ins.length cap1) (.slice a2 mc.outs.length cap2), .int .i64 row, .int .i64 bt] w fun e w' => e = .returned (.bool true) ∧ Below w.heap.size w w' := by
  by_cases hL : True
  · by_cases hn : (mc.bd.ps.length : Int) + mc.ins.length + mc.outs.length ≤ 1048576
    · obtain ⟨lf, Hs, hlf, hlf2⟩ : ∃ lf : Int, Hid (sz3 mc.bd.ps.length mc.ins.length mc.outs.length 1048576 = lf) ∧ 0 ≤ lf ∧ lf ≤ 1048576 := ⟨_, Lib.hid rfl, by unfold sz3; rw [if_pos hn]; omega, by unfold sz3; rw [if_pos hn]; omega⟩
      have M0 : MV w (mcv mc.bd.wd mc.bd.hg (.slice a mc.bd.ps.length cap) (.slice a1 mc.ins.length cap1) (.slice a2 mc.outs.length cap2)) mc := ⟨_, _, _, rfl, ⟨a, cap, rfl, h0⟩, ⟨a1, cap1, rfl, h1⟩, a2, cap2, rfl, h2⟩
      have X0 := BX5.new w (.int .i8 mc.bd.wd) (.int .i8 mc.bd.hg) (.slice a mc.bd.ps.length cap) (.slice a1 mc.ins.length cap1) (.slice a2 mc.outs.length cap2) 29
      have hln : (hzList mc row bt).length ≤ 1048576 := by have := hzList_len mc row bt; omega
      obtain ⟨rv0, hrv0⟩ : ∃ rv, rv = hzList mc row bt := ⟨_, rfl⟩
      obtain ⟨rc, hrc⟩ : ∃ rc, rc = hzCode mc row bt := ⟨_, rfl⟩
      have CS := fun v w' (h : MV w' v mc) => specHazardsIn_any mc v row bt w' h hok (by omega) (by omega) (by omega)
      have CI := fun v w' (h : MVc w' v mc) => hazardsIn_any mc v row bt w' h hok (by omega) (by omega) (by omega)
      simp only [← hrv0, ← hrc] at CS CI
      rw [← hrv0] at hln
      have CS := Lib.hid CS
      have CI := Lib.hid CI
      clear hrv0 hrc h0 h1 h2
      go_enter Tryz.func11, Tryz.ntmps11
      go_wp2_with fail
      refine (szMachine_any mc.bd.wd mc.bd.hg a _ cap a1 _ cap1 a2 _ cap2 _ _ (by omega) (by omega) (by omega) (by omega) (by omega)).mono ?_
      rintro e u ⟨rfl, bu⟩
      rw [Hs.out]
      have bu0 : Below w.heap.size w u := bl_trans (bl_alloc (Below.refl _ _)) bu
      have A0 := (M0.step (bl_alloc (Below.refl _ _))).step bu
      have AX := X0.step bu
      go_wp2_with fail
      refine (toMachine_mv A0 (by omega) (by omega) (by omega)).mono ?_
      rintro e w1 ⟨sm, im, om, rfl, Om1, b1⟩
      have AM1 := A0.step b1
      have AX1 := AX.step b1
      have B1 := b1
      obtain ⟨asm, capsm, rfl, -⟩ := own_at Om1.1
      obtain ⟨aim, capim, rfl, -⟩ := own_at Om1.2.1
      obtain ⟨aom, capom, rfl, -⟩ := own_at Om1.2.2.1
      go_wp2_with fail
      refine (CS.out _ _ Om1.mv).mono ?_
      rintro e w2 ⟨vw, rfl, Ow2, b2⟩
      have AM2 := AM1.step b2
      have AX2 := AX1.step b2
      have Pwm := ownM_apart Om1 Ow2 (by first | exact Nat.le_refl _ | simp)
      have Om2 := Om1.below b2
      have B2 := bl_trans B1 b2
      obtain ⟨aw, capw, rfl, -⟩ := own_at Ow2
      go_wp2_with fail
      refine (toMachine_mv AM2 (by omega) (by omega) (by omega)).mono ?_
      rintro e w3 ⟨sx, ix, ox, rfl, Ox3, b3⟩
      have AM3 := AM2.step b3
      have AX3 := AX2.step b3
      have Pwx := ownM_apart' Ow2 Ox3 (by first | exact Nat.le_refl _ | simp)
      have Ow3 := own_below Ow2 b3 (Nat.le_refl _)
      have B3 := bl_trans B2 b3
      obtain ⟨asx, capsx, rfl, -⟩ := own_at Ox3.1
      obtain ⟨aix, capix, rfl, -⟩ := own_at Ox3.2.1
      obtain ⟨aox, capox, rfl, -⟩ := own_at Ox3.2.2.1
      go_wp2_with fail
      refine (CI.out _ _ (Ox3.mvc.step (bl_alloc (Below.refl _ _)))).mono ?_
      rintro e w4 ⟨vg, rfl, Og4, c4⟩
      have b4 := bl_trans (bl_alloc (o := .cells #[.int .i8 mc.bd.wd, .int .i8 mc.bd.hg, .slice asx mc.bd.ps.length capsx, .slice aix mc.ins.length capix, .slice aox mc.outs.length capox] 40) (Below.refl w3.heap.size w3)) c4
      have AY4 := (BX5.new w3 (.int .i8 mc.bd.wd) (.int .i8 mc.bd.hg) (.slice asx mc.bd.ps.length capsx) (.slice aix mc.ins.length capix) (.slice aox mc.outs.length capox) 40).step c4
      have AM4 := AM3.step b4
      have AX4 := AX3.step b4
      have Nwg := own_apart Ow3 Og4 (by first | exact Nat.le_refl _ | simp)
      have Ngw := own_apart' Ow3 Og4 (by first | exact Nat.le_refl _ | simp)
      have Pgx := ownM_apart Ox3 Og4 (by first | exact Nat.le_refl _ | simp)
      have Ow4 := own_below Ow3 b4 (Nat.le_refl _)
      have Ox4 := Ox3.below b4
      have B4 := bl_trans B3 b4
      obtain ⟨ag, capg, rfl, -⟩ := own_at Og4
      go_wp2_with fail
      refine (eqInt64S_yes (own_rv Og4) (own_rv Ow4) (by omega)).mono ?_
      rintro e w5 ⟨rfl, b5⟩
      have AM5 := AM4.step b5
      have AX5 := AX4.step b5
      have AY5 := AY4.step b5
      have Ow5 := own_below Ow4 b5 (Nat.le_refl _)
      have Og5 := own_below Og4 b5 (Nat.le_refl _)
      have Ox5 := Ox4.below b5
      have B5 := bl_trans B4 b5
      go_upto_region 10 with fail
      have CK := Lib.hid (fun w' (h : Below w5.heap.size w5 w') => toMachine_mv (w := w') (AM5.step h) (by omega) (by omega) (by omega))
      have CL := Lib.hid (fun w' v' (h : Below w5.heap.size w5 w') (h' : MV w' v' mc) => eqMachine_yes (w := w') (Ox5.mv.step h) h' (by omega) (by omega) (by omega))
      go_region_held3 (fun w' => Below w5.heap.size w5 w' ∧ ∀ b o, b < w5.heap.size → w'.cell? ⟨b, o, none⟩ = w5.cell? ⟨b, o, none⟩) ((refine ext_s ?_; exact (by repeat (first | with_reducible exact Below.refl _ _ | with_reducible assumption | with_reducible apply bl_drewN | with_reducible apply bl_drew | with_reducible apply bl_alloc | (with_reducible refine bl_set ?_ (by first | (simp; done) | (simp; omega)) _) | with_reducible refine bl_trans ?_ (by with_reducible assumption))))) (first | (go_at_call 18; refine (CK.out _ ?_).mono ?_; (exact (by repeat (first | with_reducible exact Below.refl _ _ | with_reducible assumption | with_reducible apply bl_drewN | with_reducible apply bl_drew | with_reducible apply bl_alloc | (with_reducible refine bl_set ?_ (by first | (simp; done) | (simp; omega)) _) | with_reducible refine bl_trans ?_ (by with_reducible assumption)))); rintro e wa ⟨sa, ia, oa, rfl, Oa, ba⟩; obtain ⟨hca, hfa⟩ := bcell ba) | (go_at_call 21; refine (CL.out _ _ ?_ Oa.mv).mono ?_; (exact (by repeat (first | with_reducible exact Below.refl _ _ | with_reducible assumption | with_reducible apply bl_drewN | with_reducible apply bl_drew | with_reducible apply bl_alloc | (with_reducible refine bl_set ?_ (by first | (simp; done) | (simp; omega)) _) | with_reducible refine bl_trans ?_ (by with_reducible assumption)))); rintro e w6 ⟨rfl, be⟩))
      have b6 : Below w5.heap.size w5 w6 := (by repeat (first | with_reducible exact Below.refl _ _ | with_reducible assumption | with_reducible apply bl_drewN | with_reducible apply bl_drew | with_reducible apply bl_alloc | (with_reducible refine bl_set ?_ (by first | (simp; done) | (simp; omega)) _) | with_reducible refine bl_trans ?_ (by with_reducible assumption)))
      clear CK CL
      have AM6 := AM5.step b6
      have AX6 := AX5.step b6
      have AY6 := AY5.step b6
      have Ow6 := own_below Ow5 b6 (Nat.le_refl _)
      have Og6 := own_below Og5 b6 (Nat.le_refl _)
      have Ox6 := Ox5.below b6
      have B6 := bl_trans B5 b6
      go_wp2_with fail
      refine (markMachine_any Ox6 (by omega) (by omega) (by omega)).mono ?_
      rintro e w7 ⟨rfl, x7a, x7b, ga7, gb7, gc7⟩
      have Ow7 := own_kept3 Ow6 ga7 gb7 gc7 Pwx
      have Og7 := own_kept3 Og6 ga7 gb7 gc7 Pgx
      have B7 := bl_grown3 B6 ga7 gb7 gc7 Ox6 (by have h1 := B2.size; (try simp only [World.size_alloc]); omega)
      have AM7 := A0.step B7
      have AX7 := AX.step B7
      go_wp2_with fail
      refine (eqInt64S_yes (own_rv Og7) (own_rv Ow7) (by omega)).mono ?_
      rintro e w8 ⟨rfl, b8⟩
      have AM8 := AM7.step b8
      have AX8 := AX7.step b8
      have Ow8 := own_below Ow7 b8 (Nat.le_refl _)
      have Og8 := own_below Og7 b8 (Nat.le_refl _)
      have B8 := bl_trans B7 b8
      go_wp2_with fail
      refine (markInt64S_any 1 _ Og8 (by omega) (by omega) (by omega)).mono ?_
      rintro e w9 ⟨rfl, Mg9, g9⟩
      have Ow9 := own_kept Ow8 g9 Nwg
      have B9 := bl_grown B8 g9 (fun k hk => by have h1 := B3.size; have h2 := (Og8.lt k hk).1; (try simp only [World.size_alloc] at h2); omega)
      have AM9 := A0.step B9
      have AX9 := AX.step B9
      go_wp2_with fail
      refine (heldInt64S_own 1 Mg9 (by omega) (by omega) (by omega)).mono ?_
      rintro e w' ⟨rfl, rfl⟩
      go_wp2_with fail
      refine (toMachine_mv AM9 (by omega) (by omega) (by omega)).mono ?_
      rintro e w10 ⟨sz, iz, oz, rfl, Oz10, b10⟩
      have AM10 := AM9.step b10
      have AX10 := AX9.step b10
      have Pwz := ownM_apart' Ow9 Oz10 (by first | exact Nat.le_refl _ | simp)
      have Pgz := ownM_apart' Mg9 Oz10 (by first | exact Nat.le_refl _ | simp)
      have Ow10 := own_below Ow9 b10 (Nat.le_refl _)
      have Og10 := own_below Mg9 b10 (Nat.le_refl _)
      have B10 := bl_trans B9 b10
      obtain ⟨asz, capsz, rfl, -⟩ := own_at Oz10.1
      obtain ⟨aiz, capiz, rfl, -⟩ := own_at Oz10.2.1
      obtain ⟨aoz, capoz, rfl, -⟩ := own_at Oz10.2.2.1
      go_wp2_with fail
      refine (CI.out _ _ Oz10.mvc).mono ?_
      rintro e w11 ⟨vh, rfl, Oh11, b11⟩
      have AM11 := AM10.step b11
      have AX11 := AX10.step b11
      have Nwh := own_apart Ow10 Oh11 (by first | exact Nat.le_refl _ | simp)
      have Nhw := own_apart' Ow10 Oh11 (by first | exact Nat.le_refl _ | simp)
      have Ngh := own_apart Og10 Oh11 (by first | exact Nat.le_refl _ | simp)
      have Nhg := own_apart' Og10 Oh11 (by first | exact Nat.le_refl _ | simp)
      have Phz := ownM_apart Oz10 Oh11 (by first | exact Nat.le_refl _ | simp)
      have Ow11 := own_below Ow10 b11 (Nat.le_refl _)
      have Og11 := own_below Og10 b11 (Nat.le_refl _)
      have Oz11 := Oz10.below b11
      have B11 := bl_trans B10 b11
      obtain ⟨ah, caph, rfl, -⟩ := own_at Oh11
      go_wp2_with fail
      refine (eqInt64S_yes (own_rv Oh11) (own_rv Ow11) (by omega)).mono ?_
      rintro e w12 ⟨rfl, b12⟩
      have AM12 := AM11.step b12
      have AX12 := AX11.step b12
      have Ow12 := own_below Ow11 b12 (Nat.le_refl _)
      have Og12 := own_below Og11 b12 (Nat.le_refl _)
      have Oh12 := own_below Oh11 b12 (Nat.le_refl _)
      have Oz12 := Oz11.below b12
      have B12 := bl_trans B11 b12
      go_wp2_with fail
      refine (heldInt64S_own 1 Og12 (by omega) (by omega) (by omega)).mono ?_
      rintro e w' ⟨rfl, rfl⟩
      go_wp2
      go_ret
      exact ⟨rfl, bl_trans bu0 B12⟩
    · have Hs : Hid (sz3 mc.bd.ps.length mc.ins.length mc.outs.length 1048576 = -1) := Lib.hid (by unfold sz3; rw [if_neg hn])
      go_enter Tryz.func11, Tryz.ntmps11
      go_wp2_with fail
      refine (szMachine_any mc.bd.wd mc.bd.hg a _ cap a1 _ cap1 a2 _ cap2 _ _ (by omega) (by omega) (by omega) (by omega) (by omega)).mono ?_
      rintro e u ⟨rfl, bu⟩
      rw [Hs.out]
      have bu0 : Below w.heap.size w u := bl_trans (bl_alloc (Below.refl _ _)) bu
      go_wp2
      go_ret
      exact ⟨rfl, bu0⟩
  · exact absurd trivial hL
end Go.Proofs.YtdhjhnbmecbaaaaGreat
