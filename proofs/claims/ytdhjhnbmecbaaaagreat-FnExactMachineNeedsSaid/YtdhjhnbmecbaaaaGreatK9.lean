import Derived.Test.YtdhjhnbmecbaaaaGreatK8
import Derived.OwnWalk
import Derived.Deep.RegionHeld3
/- Plain words and first contracts: FirstUnsteady, IsSteady. -/
namespace Go.Proofs.YtdhjhnbmecbaaaaGreat
open Go.RowKit
set_option linter.unusedVariables false
set_option linter.unusedSimpArgs false
set_option maxHeartbeats 400000
set_option maxRecDepth 100000
def usFind (p : Nat → Nat → Bool) (R : Nat) : Option (Nat × Nat) := (List.range R).findSome? (fun r => ((List.range R).find? (p r)).map (fun c => (r, c)))
theorem usFind_no (p : Nat → Nat → Bool) (R : Nat) (h : ∀ r, r < R → ∀ c, c < R → p r c = false) : usFind p R = none := by
  unfold usFind
  rw [List.findSome?_eq_none_iff]
  intro r hr
  rw [Option.map_eq_none_iff, List.find?_eq_none]
  intro c hc
  rw [h r (by simpa using hr) c (by simpa using hc)]
  simp
theorem usFind_yes (p : Nat → Nat → Bool) (R r c : Nat) (hr : r < R) (hc : c < R) (h0 : ∀ j, j < r → ∀ d, d < R → p j d = false) (h1 : ∀ d, d < c → p r d = false) (h : p r c = true) : usFind p R = some (r, c) := by
  have e1 : (List.range R).find? (p r) = some c := by
    rw [List.find?_range_eq_some]
    exact ⟨h, by simpa using hc, fun j hj => by rw [h1 j hj]; rfl⟩
  have e2 : List.range R = List.range r ++ (List.range (R - r)).map (fun x => r + x) := by
    rw [← List.range_add]
    congr 1
    omega
  obtain ⟨g, hg⟩ : ∃ g : Nat → Option (Nat × Nat), g = fun r => ((List.range R).find? (p r)).map (fun c => (r, c)) := ⟨_, rfl⟩
  have e5 : usFind p R = (List.range R).findSome? g := by rw [hg]; rfl
  have e3 : (List.range r).findSome? g = none := by
    rw [List.findSome?_eq_none_iff]
    intro j hj
    rw [hg, Option.map_eq_none_iff, List.find?_eq_none]
    intro d hd
    rw [h0 j (by simpa using hj) d (by simpa using hd)]
    simp
  have e6 : g r = some (r, c) := by rw [hg]; simp only [e1]; rfl
  obtain ⟨k, hk⟩ : ∃ k, R - r = k + 1 := ⟨R - r - 1, by omega⟩
  rw [e5, e2, List.findSome?_append, e3, hk, List.range_succ_eq_map, List.map_cons, List.findSome?_cons, Nat.add_zero, e6]
  rfl
def stCode (m : Mc) (b : Int) : Int := if vMc m = true then (if inB b 0 100 = true then (if m.ins.length ≤ 4 then 0 else 3) else 2) else 1
theorem l03Steady_any (b0 : Nat) (m : Mc) (b : Int) (w : World) (h : MP w b0 m) (hok : m.ok) (hn : m.bd.ps.length ≤ 10000000) (hn1 : m.ins.length ≤ 10000000) (hn2 : m.outs.length ≤ 10000000) :
    Calls Tryz.prog 93 #[.pointer (some ⟨b0, 0, none⟩), .int .i64 b] w fun e w' => e = .returned (.int .i64 (stCode m b)) ∧ Below w.heap.size w w' := by
  have HOK := Lib.hid (l03Ok_any b0 m w h hok hn hn1 hn2)
  have HLT := Lib.hid (fun w1 => l03Late_any b w1)
  obtain ⟨hbl, s, si, so, ⟨hbd, c3, c4⟩, -, ⟨ia, icap, rfl, hins⟩, -⟩ := h
  rcases Bool.eq_false_or_eq_true (vMc m) with g1 | g1
  · rw [g1] at HOK
    cases g2 : inB b 0 100 with
    | false =>
      have HC : Hid (stCode m b = 2) := Lib.hid (by unfold stCode; rw [if_pos g1, if_neg (by simp [g2])])
      rw [HC.out]
      rw [g2] at HLT
      clear g1 g2 HC
      go_enter Tryz.func93, Tryz.ntmps93
      go_wp2_with fail
      refine HOK.out.mono ?_
      rintro e w1 ⟨rfl, hb1⟩
      go_wp2_with (go_at_call 91; refine (HLT.out _).mono ?_; rintro e w' ⟨rfl, rfl⟩)
      go_ret
      exact ⟨rfl, hb1⟩
    | true =>
      rw [g2] at HLT
      by_cases g3 : m.ins.length ≤ 4
      · have HC : Hid (stCode m b = 0) := Lib.hid (by unfold stCode; rw [if_pos g1, if_pos g2, if_pos g3])
        rw [HC.out]
        clear g1 g2 HC
        go_enter Tryz.func93, Tryz.ntmps93
        go_wp2_with fail
        refine HOK.out.mono ?_
        rintro e w1 ⟨rfl, hb1⟩
        have x3 : w1.cell? ⟨b0, 3, none⟩ = some (.slice ia m.ins.length icap) := by rw [hb1.cell (p := ⟨b0, 3, none⟩) hbl]; exact c3
        go_wp2_with (go_at_call 91; refine (HLT.out _).mono ?_; rintro e w' ⟨rfl, rfl⟩)
        go_ret
        exact ⟨rfl, hb1⟩
      · have HC : Hid (stCode m b = 3) := Lib.hid (by unfold stCode; rw [if_pos g1, if_pos g2, if_neg g3])
        rw [HC.out]
        clear g1 g2 HC
        go_enter Tryz.func93, Tryz.ntmps93
        go_wp2_with fail
        refine HOK.out.mono ?_
        rintro e w1 ⟨rfl, hb1⟩
        have x3 : w1.cell? ⟨b0, 3, none⟩ = some (.slice ia m.ins.length icap) := by rw [hb1.cell (p := ⟨b0, 3, none⟩) hbl]; exact c3
        go_wp2_with (go_at_call 91; refine (HLT.out _).mono ?_; rintro e w' ⟨rfl, rfl⟩)
        go_ret
        exact ⟨rfl, hb1⟩
  · have HC : Hid (stCode m b = 1) := Lib.hid (by unfold stCode; rw [if_neg (by simp [g1])])
    rw [HC.out]
    rw [g1] at HOK
    clear g1 HC
    go_enter Tryz.func93, Tryz.ntmps93
    go_wp2_with fail
    refine HOK.out.mono ?_
    rintro e w1 ⟨rfl, hb1⟩
    go_wp2
    go_ret
    exact ⟨rfl, hb1⟩
end Go.Proofs.YtdhjhnbmecbaaaaGreat
/- Contracts: FirstUnsteady (the reference). -/
namespace Go.Proofs.YtdhjhnbmecbaaaaGreat
open Go.RowKit
set_option linter.unusedVariables false
set_option linter.unusedSimpArgs false
set_option maxHeartbeats 400000
set_option maxRecDepth 100000
def usRowO : Option (Nat × Nat) → Int
  | some (r, _) => r
  | none => 0
def usLateO (n : Nat) (b : Int) : Option (Nat × Nat) → List Int
  | some (_, c) => lbList n c b
  | none => []
def usCodeO (st : Int) (o : Option (Nat × Nat)) : Int := if st = 0 then (match o with | some _ => 0 | none => 6) else st
noncomputable def usP (m : Mc) (b : Int) (r c : Nat) : Bool := (mOut m r (lbList m.ins.length c b) : Int) != (mOut m r (zeros m.ins.length) : Int)
noncomputable def usOpt (m : Mc) (b : Int) : Option (Nat × Nat) := if stCode m b = 0 then usFind (usP m b) (mRows m) else none
noncomputable def usRow (m : Mc) (b : Int) : Int := usRowO (usOpt m b)
noncomputable def usLate (m : Mc) (b : Int) : List Int := usLateO m.ins.length b (usOpt m b)
noncomputable def usCode (m : Mc) (b : Int) : Int := usCodeO (stCode m b) (usOpt m b)
theorem usLate_len (m : Mc) (b : Int) : (usLate m b).length ≤ m.ins.length := by
  unfold usLate
  cases usOpt m b with
  | none => exact Nat.zero_le _
  | some p => exact Nat.le_of_eq (lbList_len _ _ _)
theorem us_bad (m : Mc) (b : Int) (h : stCode m b ≠ 0) : usRow m b = 0 ∧ usLate m b = [] ∧ usCode m b = stCode m b := by
  have h1 : usOpt m b = none := if_neg h
  unfold usRow usLate usCode
  rw [h1]
  exact ⟨rfl, rfl, if_neg h⟩
theorem us_none (m : Mc) (b : Int) (h : stCode m b = 0) (h1 : ∀ r, r < mRows m → ∀ c, c < mRows m → usP m b r c = false) : usRow m b = 0 ∧ usLate m b = [] ∧ usCode m b = 6 := by
  have h1 : usOpt m b = none := by unfold usOpt; rw [if_pos h]; exact usFind_no _ _ h1
  unfold usRow usLate usCode
  rw [h1]
  exact ⟨rfl, rfl, if_pos h⟩
theorem us_some (m : Mc) (b : Int) (r c : Nat) (h : stCode m b = 0) (hr : r < mRows m) (hc : c < mRows m) (h0 : ∀ j, j < r → ∀ d, d < mRows m → usP m b j d = false) (h1 : ∀ d, d < c → usP m b r d = false) (h2 : usP m b r c = true) : usRow m b = r ∧ usLate m b = lbList m.ins.length c b ∧ usCode m b = 0 := by
  have h1 : usOpt m b = some (r, c) := by unfold usOpt; rw [if_pos h]; exact usFind_yes _ _ r c hr hc h0 h1 h2
  unfold usRow usLate usCode
  rw [h1]
  exact ⟨rfl, rfl, if_pos h⟩
theorem stCode_ok (m : Mc) (b : Int) (h : stCode m b = 0) : vMc m = true ∧ inB b 0 100 = true ∧ m.ins.length ≤ 4 := by
  unfold stCode at h
  split at h
  · rename_i g1
    split at h
    · rename_i g2
      split at h
      · rename_i g3; exact ⟨g1, g2, g3⟩
      · omega
    · omega
  · omega
theorem lbSt_no0 (n ch : Nat) (b : Int) (i : Nat) (hi : i < n) (h : ch.testBit i = false) : (lbSt n ch b i).set i 0 = lbSt n ch b (i + 1) := by
  rw [lbSt_no n ch b i h]
  apply List.ext_getElem
  · simp
  · intro j h1 h2
    rw [List.getElem_set]
    split
    · rename_i e
      subst e
      rw [lbSt_get n ch b i i hi, if_neg (by omega)]
    · rfl
theorem lbList_zero (n : Nat) (b : Int) : lbList n 0 b = zeros n := by
  unfold lbList lbSt zeros
  apply List.ext_getElem
  · simp
  · intro i h1 h2
    simp
set_option maxHeartbeats 1600000 in
theorem specFirstUnsteady_any (m : Mc) (v : Value) (b : Int) (w : World) (h : MV w v m) (hok : m.ok) (hn : m.bd.ps.length ≤ 10000000) (hn1 : m.ins.length ≤ 10000000) (hn2 : m.outs.length ≤ 10000000) :
    Calls Tryz.prog 48 #[v, .int .i64 b] w fun e w' => ∃ v, e = .returned (.tuple #[.int .i64 (usRow m b), v, .int .i64 (usCode m b)]) ∧ w'.ownsRow w.heap.size 2 1 v (usLate m b).length (flat N64_cells (usLate m b)) ∧ Below w.heap.size w w' := by
  obtain ⟨s, si, so, rfl, h0, ⟨ai, capi, rfl, h1⟩, h2⟩ := h
  have HM := Lib.hid (MP.new (m := m) (w := w) h0 ⟨ai, capi, rfl, h1⟩ h2 40)
  have HBA := Lib.hid (show Below w.heap.size w (w.alloc (.cells #[.int .i8 m.bd.wd, .int .i8 m.bd.hg, s, .slice ai m.ins.length capi, so] 40)) from bl_alloc (Below.refl _ _))
  have HXB := Lib.hid (BX5.new w (.int .i8 m.bd.wd) (.int .i8 m.bd.hg) s (.slice ai m.ins.length capi) so 40)
  have HST := Lib.hid (l03Steady_any w.heap.size m b _ HM.out hok hn hn1 hn2)
  by_cases g1 : stCode m b = 0
  · obtain ⟨gv, gb, gi4⟩ := stCode_ok m b g1
    obtain ⟨-, -, hi1, hi6, ho1, ho8, -⟩ := vMc_parts m gv
    have HRO := Lib.hid (fun w1 (hb : Below (w.alloc (.cells #[.int .i8 m.bd.wd, .int .i8 m.bd.hg, s, .slice ai m.ins.length capi, so] 40)).heap.size (w.alloc (.cells #[.int .i8 m.bd.wd, .int .i8 m.bd.hg, s, .slice ai m.ins.length capi, so] 40)) w1) => l03Rows_any w.heap.size m w1 (HM.out.step hb) hi6)
    have hR64 := mRows_le m hi6
    have HOU := Lib.hid (fun w1 (hb : Below (w.alloc (.cells #[.int .i8 m.bd.wd, .int .i8 m.bd.hg, s, .slice ai m.ins.length capi, so] 40)).heap.size (w.alloc (.cells #[.int .i8 m.bd.wd, .int .i8 m.bd.hg, s, .slice ai m.ins.length capi, so] 40)) w1) (r : Nat) (hr : r < 64) (L : List Int) (hl : L.length = m.ins.length) (hlo : lateOk L) a (hs : SlAt w1.heap.size w1 a (flat N64_cells L)) => l03Outputs_any (B := w1.heap.size) w.heap.size m r a m.ins.length L w1 (HM.out.step hb) gv hok hl hlo hs (Nat.le_refl _) hr)
    have HLO := Lib.hid (fun c => lbList_ok m.ins.length c b gb)
    have HPE : Hid (∀ r c, usP m b r c = ((mOut m r (lbList m.ins.length c b) : Int) != (mOut m r (zeros m.ins.length) : Int))) := Lib.hid (fun r c => rfl)
    have HNO := Lib.hid (us_none m b g1)
    have HYS := Lib.hid (fun r c => us_some m b r c g1)
    have hbb : 0 ≤ b ∧ b ≤ 100 := by unfold inB at gb; simpa using gb
    obtain ⟨hb0, hb100⟩ := hbb
    rw [g1] at HST
    obtain ⟨R, hRR⟩ : ∃ R, R = mRows m := ⟨_, rfl⟩
    rw [← hRR] at HRO hR64 HNO HYS
    obtain ⟨p, hp⟩ : ∃ p, p = usP m b := ⟨_, rfl⟩
    rw [← hp] at HPE HNO HYS
    obtain ⟨f, hf⟩ : ∃ f : Nat → List Int → Nat, f = mOut m := ⟨_, rfl⟩
    rw [← hf] at HOU HPE
    obtain ⟨rr, hrr⟩ : ∃ rr, rr = usRow m b := ⟨_, rfl⟩
    obtain ⟨rl, hrl⟩ : ∃ rl, rl = usLate m b := ⟨_, rfl⟩
    obtain ⟨rc, hrc⟩ : ∃ rc, rc = usCode m b := ⟨_, rfl⟩
    simp only [← hrr, ← hrl, ← hrc] at HNO HYS ⊢
    clear hRR hp hf hrr hrl hrc g1 gv gb
    obtain ⟨i0, hi0, hiz0, hiz1, hiz2⟩ := info_parts Tryz.infoInt64
    go_enter Tryz.func48, Tryz.ntmps48
    go_wp2_with fail
    refine HST.out.mono ?_
    rintro e w1 ⟨rfl, hb1⟩
    have HB1 := Lib.hid hb1
    obtain ⟨X0, -, -, -, x3, -⟩ := HXB.out.step hb1
    clear hb1
    go_wp2
    go_loopw [8] (fun rx wr => ∃ r : Nat, r ≤ R ∧ rx = .int .i64 r ∧ Hid (∀ j, j < r → ∀ d, d < R → p j d = false) ∧ Below w1.heap.size w1 wr) (fun rx _ => R - (intOf rx).toNat)
    case atStart => exact ⟨0, by omega, rfl, Lib.hid (fun j hj => absurd hj (Nat.not_lt_zero _)), Below.refl _ _⟩
    case round =>
      obtain ⟨r, hr, rfl, HP, hb⟩ := hrel
      have HBW := Lib.hid (bl_trans HB1.out hb)
      by_cases hlt : r < R
      · have hrI : (r : Int) < R := by omega
        have HBB := Lib.hid hb
        clear hb
        obtain ⟨W1, hW1⟩ : ∃ W1, W1 = wr := ⟨_, rfl⟩
        subst hW1
        go_wp2_with (go_at_call 80; refine (HRO.out _ HBW.out).mono ?_; rintro e w' ⟨rfl, rfl⟩)
        go_loopw [9, 10] (fun px cx wi => ∃ (c : Nat) (pl : Int), c ≤ R ∧ cx = .int .i64 c ∧ px = .int .i64 pl ∧ Hid ((c = 0 ∨ pl = ((f r (zeros m.ins.length) : Nat) : Int)) ∧ ∀ d, d < c → p r d = false) ∧ Below W1.heap.size W1 wi) (fun _ cx _ => R - (intOf cx).toNat)
        case atStart => exact ⟨0, 0, by omega, rfl, rfl, Lib.hid ⟨.inl rfl, fun d hd => absurd hd (Nat.not_lt_zero _)⟩, Below.refl _ _⟩
        case round =>
          obtain ⟨c, pl, hc, rfl, rfl, HC, hbi⟩ := hrel
          have HBWi := Lib.hid (bl_trans HBW.out hbi)
          have HBBi := Lib.hid (bl_trans HBB.out hbi)
          have y3 : wr.cell? ⟨w.heap.size, 3, none⟩ = some (.slice ai m.ins.length capi) := by rw [HBBi.out.cell (p := ⟨w.heap.size, 3, none⟩) X0]; exact x3
          have HBI := Lib.hid hbi
          clear hbi
          by_cases hltc : c < R
          · have hcI : (c : Int) < R := by omega
            obtain ⟨W2, hW2⟩ : ∃ W2, W2 = wr := ⟨_, rfl⟩
            subst hW2
            go_wp2_with (first | (go_at_call 80; refine (HRO.out _ HBWi.out).mono ?_; rintro e w' ⟨rfl, rfl⟩) | (refine wpList_make_full _ rfl (.tmp 32) (.tmp 32) 30 rfl W2.heap.size 2 i0 _ 1 Tryz.underlying30 hi0 hiz0 hiz1 _ _ _ _ m.ins.length rfl rfl rfl rfl (by rw [hiz2]; omega) (by unfold maxLen; omega) (Nat.le_refl _) ?_; intro w5 hmade hgrow))
            rw [made_rep _ rfl, ← flat_zeros, ← lbSt_zero m.ins.length c b] at hmade
            have hb5 : Below W2.heap.size W2 w5 := bl_grown (Below.refl _ _) hgrow (by simp)
            have HMD := Lib.hid (And.intro hmade hb5)
            clear hmade hb5 hgrow
            go_wp2
            go_loopw [12] (fun ix wj => ∃ i : Nat, i ≤ m.ins.length ∧ ix = .int .i64 i ∧ wj.ownsRow W2.heap.size 2 1 (.slice (some ⟨W2.heap.size, 0, none⟩) m.ins.length m.ins.length) m.ins.length (flat N64_cells (lbSt m.ins.length c b i)) ∧ Below W2.heap.size W2 wj) (fun ix _ => m.ins.length - (intOf ix).toNat)
            case atStart => exact ⟨0, by omega, rfl, HMD.out.1, HMD.out.2⟩
            case round =>
              obtain ⟨i, hi, rfl, hown, hbj⟩ := hrel
              by_cases hlti : i < m.ins.length
              · obtain ⟨k0, k1⟩ := n64_cell hown i (by rw [lbSt_len]; exact hlti)
                obtain ⟨o, k0⟩ : ∃ o, wr.cell? ⟨W2.heap.size, i, none⟩ = some (.int .i64 o) := ⟨_, k0⟩
                have hiI : (i : Int) < m.ins.length := by omega
                have HOWN := Lib.hid hown
                have HBJ := Lib.hid hbj
                clear hown hbj
                have hbv := bit_val c i (by omega)
                have hmin : min i 64 = i := Nat.min_eq_left (by omega)
                cases gb : c.testBit i with
                | true =>
                  rw [gb, if_pos rfl] at hbv
                  have HS := Lib.hid (lbSt_yes m.ins.length c b i hlti gb)
                  clear gb
                  go_wp2
                  have how := n64_set HOWN.out i b
                  rw [HS.out] at how
                  go_roundw
                  case rel => exact ⟨i + 1, by omega, by go_num, how, bl_set HBJ.out (Nat.le_refl _) _⟩
                  case measure => simp [intOf]; omega
                | false =>
                  rw [gb, if_neg Bool.false_ne_true] at hbv
                  have HS := Lib.hid (lbSt_no0 m.ins.length c b i hlti gb)
                  clear gb
                  go_wp2
                  have how := n64_set HOWN.out i 0
                  rw [HS.out] at how
                  go_roundw
                  case rel => exact ⟨i + 1, by omega, by go_num, how, bl_set HBJ.out (Nat.le_refl _) _⟩
                  case measure => simp [intOf]; omega
              · have hin : Hid (i = m.ins.length) := Lib.hid (by omega)
                rw [hin.out] at hown
                have HOWN := Lib.hid hown
                have HBJ := Lib.hid hbj
                have HOC := Lib.hid (HOU.out wr (bl_trans HBWi.out hbj) r (by omega) (lbList m.ins.length c b) (lbList_len _ _ _) (HLO.out c) _ (own_sl hown))
                have HPC := Lib.hid (HPE.out r c)
                have HLZ : Hid (c = 0 → lbList m.ins.length c b = zeros m.ins.length) := Lib.hid (fun h => by rw [h]; exact lbList_zero _ _)
                clear hown hbj
                go_wp2_with fail
                refine HOC.out.mono ?_
                rintro e w7 ⟨rfl, hb7⟩
                have HB7 := Lib.hid (bl_trans HBJ.out hb7)
                have HB7i := Lib.hid (bl_trans HBI.out HB7.out)
                have HO7 := Lib.hid (own_below HOWN.out hb7 (Nat.le_refl _))
                clear hb7 HOC
                by_cases hc0 : c = 0
                · have gc : ((c : Int) == 0) = true := by rw [hc0]; rfl
                  have HN : Hid (f r (lbList m.ins.length c b) = f r (zeros m.ins.length) ∧ p r c = false) := Lib.hid (by rw [HPC.out, HLZ.out hc0]; exact ⟨rfl, by simp⟩)
                  obtain ⟨F, hF⟩ : ∃ F : Int, F = ((f r (lbList m.ins.length c b) : Nat) : Int) := ⟨_, rfl⟩
                  rw [← hF]
                  have HF := Lib.hid hF
                  have HC0 := Lib.hid hc0
                  clear hc0 hF
                  go_wp2
                  go_roundw
                  case rel => exact ⟨c + 1, F, by omega, by go_num, rfl, Lib.hid ⟨.inr (by rw [HF.out, HN.out.1]), fun d hd => by rcases Nat.lt_succ_iff_lt_or_eq.1 hd with h | h; exact HC.out.2 d h; rw [h]; exact HN.out.2⟩, HB7i.out⟩
                  case measure => simp [intOf]; omega
                · have gc : ((c : Int) == 0) = false := by simp; omega
                  have HPL := Lib.hid (HC.out.1.resolve_left hc0)
                  obtain ⟨F, hF⟩ : ∃ F : Int, F = ((f r (lbList m.ins.length c b) : Nat) : Int) := ⟨_, rfl⟩
                  rw [← hF] at HPC ⊢
                  rw [← HPL.out] at HPC
                  have HPL2 := Lib.hid HPL.out
                  clear hF hc0
                  rcases Bool.eq_false_or_eq_true (F != pl) with gp | gp
                  · have HY := Lib.hid (HYS.out r c hlt hltc HP.out HC.out.2 (by rw [HPC.out]; exact gp))
                    have HOW2 := Lib.hid (own_mono (base := w.heap.size) HO7.out (by have h1 := HBWi.out.size; simp only [World.size_alloc] at h1; omega))
                    go_wp2
                    go_ret3
                    exact ⟨_, by rw [HY.out.1, HY.out.2.2]; rfl, by rw [HY.out.2.1, lbList_len]; exact HOW2.out, bl_trans HBA.out (bl_trans HBWi.out HB7.out)⟩
                  · have HN : Hid (p r c = false) := Lib.hid (by rw [HPC.out]; exact gp)
                    go_wp2
                    go_roundw
                    case rel => exact ⟨c + 1, pl, by omega, by go_num, rfl, Lib.hid ⟨.inr HPL2.out, fun d hd => by rcases Nat.lt_succ_iff_lt_or_eq.1 hd with h | h; exact HC.out.2 d h; rw [h]; exact HN.out⟩, HB7i.out⟩
                    case measure => simp [intOf]; omega
          · have HCR : Hid (c = R) := Lib.hid (by omega)
            have hcI : ¬ (c : Int) < R := by omega
            go_wp2_with (go_at_call 80; refine (HRO.out _ HBWi.out).mono ?_; rintro e w' ⟨rfl, rfl⟩)
            go_roundw
            case rel => exact ⟨r + 1, by omega, by go_num, Lib.hid (fun j hj d hd => by rcases Nat.lt_succ_iff_lt_or_eq.1 hj with h | h; exact HP.out j h d hd; rw [h]; exact HC.out.2 d (by rw [HCR.out]; exact hd)), HBBi.out⟩
            case measure => simp [intOf]; omega
      · have HRR : Hid (r = R) := Lib.hid (by omega)
        have hrI : ¬ (r : Int) < R := by omega
        have HNN := Lib.hid (HNO.out (fun j hj d hd => HP.out j (by rw [HRR.out]; exact hj) d hd))
        have HBB := Lib.hid hb
        have hb01 := bl_trans HBA.out HBW.out
        have hown := World.ownsRow_made (e := 2) (size := 1) wr #[] 0 (Nat.le_refl _) (by simp [maxLen]) rfl
        have hown2 := own_mono (base := w.heap.size) hown hb01.size
        have HRET := Lib.hid (And.intro hown2 (bl_alloc (o := .cells #[] 2) hb01))
        clear hb hb01 hown hown2
        go_wp2_with (go_at_call 80; refine (HRO.out _ HBW.out).mono ?_; rintro e w' ⟨rfl, rfl⟩)
        go_ret3
        exact ⟨_, by rw [HNN.out.1, HNN.out.2.2]; rfl, by rw [HNN.out.2.1]; exact HRET.out.1, HRET.out.2⟩
  · obtain ⟨e1, e2, e3⟩ := us_bad m b g1
    rw [e1, e2, e3]
    obtain ⟨K, hK⟩ : ∃ K, K = stCode m b := ⟨_, rfl⟩
    rw [← hK] at HST g1 ⊢
    have gk : (K != 0) = true := by simpa using g1
    clear hK e1 e2 e3 g1
    go_enter Tryz.func48, Tryz.ntmps48
    go_wp2_with fail
    refine HST.out.mono ?_
    rintro e w1 ⟨rfl, hb1⟩
    have hb01 := bl_trans HBA.out hb1
    have hown := World.ownsRow_made (e := 2) (size := 1) w1 #[] 0 (Nat.le_refl _) (by simp [maxLen]) rfl
    have hown2 := own_mono (base := w.heap.size) hown hb01.size
    have HRET := Lib.hid (And.intro hown2 (bl_alloc (o := .cells #[] 2) hb01))
    clear hb1 hb01 hown hown2
    go_wp2
    go_ret3
    exact ⟨_, rfl, HRET.out.1, HRET.out.2⟩
end Go.Proofs.YtdhjhnbmecbaaaaGreat
/- Contracts: FirstUnsteady (the program), IsSteady (both). -/
namespace Go.Proofs.YtdhjhnbmecbaaaaGreat
open Go.RowKit
set_option linter.unusedVariables false
set_option linter.unusedSimpArgs false
set_option maxHeartbeats 400000
set_option maxRecDepth 100000
theorem stCode_cases (m : Mc) (b : Int) (h : stCode m b ≠ 0) : (vMc m = false ∧ stCode m b = 1) ∨ (vMc m = true ∧ inB b 0 100 = false ∧ stCode m b = 2) ∨ (vMc m = true ∧ inB b 0 100 = true ∧ ¬ m.ins.length ≤ 4 ∧ stCode m b = 3) := by
  unfold stCode at h ⊢
  by_cases g1 : vMc m = true
  · rw [if_pos g1] at h ⊢
    by_cases g2 : inB b 0 100 = true
    · rw [if_pos g2] at h ⊢
      by_cases g3 : m.ins.length ≤ 4
      · rw [if_pos g3] at h; exact absurd rfl h
      · rw [if_neg g3]; exact .inr (.inr ⟨g1, g2, g3, rfl⟩)
    · rw [if_neg g2]; exact .inr (.inl ⟨g1, by simpa using g2, rfl⟩)
  · rw [if_neg g1]; exact .inl ⟨by simpa using g1, rfl⟩
set_option maxHeartbeats 1600000 in
theorem firstUnsteady_any (m : Mc) (v : Value) (b : Int) (w : World) (h : MVc w v m) (hok : m.ok) (hn : m.bd.ps.length ≤ 10000000) (hn1 : m.ins.length ≤ 10000000) (hn2 : m.outs.length ≤ 10000000) :
    Calls Tryz.prog 49 #[v, .int .i64 b] w fun e w' => ∃ v, e = .returned (.tuple #[.int .i64 (usRow m b), v, .int .i64 (usCode m b)]) ∧ w'.ownsRow w.heap.size 2 1 v (usLate m b).length (flat N64_cells (usLate m b)) ∧ Below w.heap.size w w' := by
  have HVM := Lib.hid (fun w1 (hb : Below w.heap.size w w1) => validMachine_any m v w1 (h.step hb) hok hn hn1 hn2)
  obtain ⟨sa, scap, ia, icap, oa, ocap, rfl, hcap, hps, hins, houts⟩ := h
  have HM := Lib.hid (MP.new (m := m) (w := w) ⟨sa, scap, rfl, hps⟩ ⟨ia, icap, rfl, hins⟩ ⟨oa, ocap, rfl, houts⟩ 40)
  have HBA := Lib.hid (show Below w.heap.size w (w.alloc (.cells #[.int .i8 m.bd.wd, .int .i8 m.bd.hg, .slice sa m.bd.ps.length scap, .slice ia m.ins.length icap, .slice oa m.outs.length ocap] 40)) from bl_alloc (Below.refl _ _))
  have HXB := Lib.hid (BX5.new w (.int .i8 m.bd.wd) (.int .i8 m.bd.hg) (.slice sa m.bd.ps.length scap) (.slice ia m.ins.length icap) (.slice oa m.outs.length ocap) 40)
  have HLT := Lib.hid (fun w1 => in_any b 0 100 w1)
  by_cases g1 : stCode m b = 0
  · obtain ⟨gv, gb, gi4⟩ := stCode_ok m b g1
    obtain ⟨-, -, hi1, hi6, ho1, ho8, -⟩ := vMc_parts m gv
    rw [gv] at HVM
    rw [gb] at HLT
    have HWK := Lib.hid (fun w1 (hb : Below (w.alloc (.cells #[.int .i8 m.bd.wd, .int .i8 m.bd.hg, .slice sa m.bd.ps.length scap, .slice ia m.ins.length icap, .slice oa m.outs.length ocap] 40)).heap.size (w.alloc (.cells #[.int .i8 m.bd.wd, .int .i8 m.bd.hg, .slice sa m.bd.ps.length scap, .slice ia m.ins.length icap, .slice oa m.outs.length ocap] 40)) w1) => worksOf_any w.heap.size m w1 (HM.out.step hb) gv hok)
    have HRO := Lib.hid (fun w1 g (hw : WkAt w1 g w.heap.size m) => wrows_any g w.heap.size m w1 hw hi6)
    have hR64 := mRows_le m hi6
    have HOZ := Lib.hid (fun w1 g (hw : WkAt w1 g w.heap.size m) (r : Nat) (hr : r < 64) => woutputs_any g w.heap.size m r (.slice none 0 0) (zeros m.ins.length) w1 hw gv hok (LateV.nil w1 _) hr)
    have HOU := Lib.hid (fun w1 g (hw : WkAt w1 g w.heap.size m) (r : Nat) (hr : r < 64) (L : List Int) (hl : L.length = m.ins.length) (hlo : lateOk L) al capl (hs : SlAt w1.heap.size w1 al (flat N64_cells L)) => woutputs_any g w.heap.size m r (.slice al m.ins.length capl) L w1 hw gv hok (by have h9 := lateV_of (capl := capl) hs hl hi1 hlo; rwa [hl] at h9) hr)
    have HLO := Lib.hid (fun c => lbList_ok m.ins.length c b gb)
    have HPE : Hid (∀ r c, usP m b r c = ((mOut m r (lbList m.ins.length c b) : Int) != (mOut m r (zeros m.ins.length) : Int))) := Lib.hid (fun r c => rfl)
    have HNO := Lib.hid (us_none m b g1)
    have HYS := Lib.hid (fun r c => us_some m b r c g1)
    obtain ⟨R, hRR⟩ : ∃ R, R = mRows m := ⟨_, rfl⟩
    rw [← hRR] at HRO hR64 HNO HYS
    obtain ⟨p, hp⟩ : ∃ p, p = usP m b := ⟨_, rfl⟩
    rw [← hp] at HPE HNO HYS
    obtain ⟨f, hf⟩ : ∃ f : Nat → List Int → Nat, f = mOut m := ⟨_, rfl⟩
    rw [← hf] at HOU HOZ HPE
    obtain ⟨rr, hrr⟩ : ∃ rr, rr = usRow m b := ⟨_, rfl⟩
    obtain ⟨rl, hrl⟩ : ∃ rl, rl = usLate m b := ⟨_, rfl⟩
    obtain ⟨rc, hrc⟩ : ∃ rc, rc = usCode m b := ⟨_, rfl⟩
    simp only [← hrr, ← hrl, ← hrc] at HNO HYS ⊢
    clear hRR hp hf hrr hrl hrc g1 gv gb
    go_enter Tryz.func49, Tryz.ntmps49
    go_wp2_with fail
    refine (HVM.out _ HBA.out).mono ?_
    rintro e w1 ⟨rfl, hb1⟩
    have HB1 := Lib.hid (bl_trans HBA.out hb1)
    have HWC := Lib.hid (HWK.out w1 hb1)
    obtain ⟨X0, -, -, -, x3, -⟩ := HXB.out.step hb1
    clear hb1 HWK
    go_wp2_with (go_at_call 84; refine (HLT.out _).mono ?_; rintro e w' ⟨rfl, rfl⟩)
    refine HWC.out.mono ?_
    rintro e w2 ⟨g, rfl, hg, hwk, hb2⟩
    have HB2 := Lib.hid (bl_trans HB1.out hb2)
    have HW2 := Lib.hid hwk
    have HRC := Lib.hid (HRO.out w2 g hwk)
    clear hwk hb2 HWC x3 X0
    go_wp2_with (go_at_call 81; refine HRC.out.mono ?_; rintro e w' ⟨rfl, rfl⟩)
    go_loopw [28] (fun rx wr => ∃ r : Nat, r ≤ R ∧ rx = .int .i64 r ∧ Hid (∀ j, j < r → ∀ d, d < R → p j d = false) ∧ Below w2.heap.size w2 wr) (fun rx _ => R - (intOf rx).toNat)
    case atStart => exact ⟨0, by omega, rfl, Lib.hid (fun j hj => absurd hj (Nat.not_lt_zero _)), Below.refl _ _⟩
    case round =>
      obtain ⟨r, hr, rfl, HP, hb⟩ := hrel
      by_cases hlt : r < R
      · have hrI : (r : Int) < R := by omega
        have HOC := Lib.hid (HOZ.out wr g (HW2.out.step hb) r (by omega))
        have HBB := Lib.hid hb
        clear hb
        obtain ⟨P, hP⟩ : ∃ P : Int, P = ((f r (zeros m.ins.length) : Nat) : Int) := ⟨_, rfl⟩
        rw [← hP] at HOC
        have HPQ := Lib.hid hP
        clear hP
        go_wp2_with fail
        refine HOC.out.mono ?_
        rintro e w3 ⟨rfl, hb3⟩
        have HBB3 := Lib.hid (bl_trans HBB.out hb3)
        have HW3 := Lib.hid (HW2.out.step HBB3.out)
        have HRC3 := Lib.hid (HRO.out w3 g HW3.out)
        clear hb3 HOC
        obtain ⟨W1, hW1⟩ : ∃ W1, W1 = wr := ⟨_, rfl⟩
        subst hW1
        go_wp2_with (go_at_call 81; refine HRC3.out.mono ?_; rintro e w' ⟨rfl, rfl⟩)
        go_loopw [36] (fun cx wi => ∃ c : Nat, c ≤ R ∧ cx = .int .i64 c ∧ Hid (∀ d, d < c → p r d = false) ∧ Below w3.heap.size w3 wi) (fun cx _ => R - (intOf cx).toNat)
        case atStart => exact ⟨0, by omega, rfl, Lib.hid (fun d hd => absurd hd (Nat.not_lt_zero _)), Below.refl _ _⟩
        case round =>
          obtain ⟨c, hc, rfl, HC, hbi⟩ := hrel
          have HBBi := Lib.hid (bl_trans HBB3.out hbi)
          have HBI := Lib.hid hbi
          by_cases hltc : c < R
          · have hcI : (c : Int) < R := by omega
            have HWi := Lib.hid (HW3.out.step hbi)
            have HCK := Lib.hid (lateBy_any m.ins.length c b wr (by omega) (by omega))
            have HPC := Lib.hid (HPE.out r c)
            rw [← HPQ.out] at HPC
            have HLB := Lib.hid (lbList_len m.ins.length c b)
            have HLK := Lib.hid (HLO.out c)
            have HYY := Lib.hid (HYS.out r c hlt hltc HP.out HC.out)
            obtain ⟨L, hL⟩ : ∃ L, L = lbList m.ins.length c b := ⟨_, rfl⟩
            rw [← hL] at HCK HPC HLB HLK HYY
            obtain ⟨hgl, c0, -, ⟨ah, caph, c2, -⟩, -⟩ := HWi.out
            clear hL hbi
            go_wp2_with fail
            refine HCK.out.mono ?_
            rintro e w5 ⟨vl, rfl, hown5, hb5⟩
            obtain ⟨al, capl, hve, hsl, -, -⟩ := own_at hown5
            subst hve
            have HOW5 := Lib.hid hown5
            have HB5 := Lib.hid hb5
            have HOC := Lib.hid (HOU.out w5 g (HWi.out.step hb5) r (by omega) L HLB.out HLK.out al capl hsl)
            clear hown5 hb5 hsl HCK c0 c2 hgl
            go_wp2_with fail
            refine HOC.out.mono ?_
            rintro e w7 ⟨rfl, hb7⟩
            have HB7 := Lib.hid (bl_trans HB5.out hb7)
            have HO7 := Lib.hid (own_below HOW5.out hb7 (Nat.le_refl _))
            have HBI7 := Lib.hid (bl_trans HBI.out HB7.out)
            obtain ⟨F, hF⟩ : ∃ F : Int, F = ((f r L : Nat) : Int) := ⟨_, rfl⟩
            rw [← hF] at HPC ⊢
            clear hb7 HOC hF
            rcases Bool.eq_false_or_eq_true (F != P) with gp | gp
            · have HY := Lib.hid (HYY.out (by rw [HPC.out]; exact gp))
              have HOW2 := Lib.hid (own_mono (base := w.heap.size) HO7.out (by have h1 := HBBi.out.size; have h2 := HB2.out.size; omega))
              go_wp2
              go_ret3
              exact ⟨_, by rw [HY.out.1, HY.out.2.2]; rfl, by rw [HY.out.2.1, HLB.out]; exact HOW2.out, bl_trans HB2.out (bl_trans HBBi.out HB7.out)⟩
            · have HN : Hid (p r c = false) := Lib.hid (by rw [HPC.out]; exact gp)
              go_wp2
              go_roundw
              case rel => exact ⟨c + 1, by omega, by go_num, Lib.hid (fun d hd => by rcases Nat.lt_succ_iff_lt_or_eq.1 hd with h | h; exact HC.out d h; rw [h]; exact HN.out), HBI7.out⟩
              case measure => simp [intOf]; omega
          · have HCR : Hid (c = R) := Lib.hid (by omega)
            have hcI : ¬ (c : Int) < R := by omega
            go_wp2
            go_roundw
            case rel => exact ⟨r + 1, by omega, by go_num, Lib.hid (fun j hj d hd => by rcases Nat.lt_succ_iff_lt_or_eq.1 hj with h | h; exact HP.out j h d hd; rw [h]; exact HC.out d (by rw [HCR.out]; exact hd)), HBBi.out⟩
            case measure => simp [intOf]; omega
      · have HRR : Hid (r = R) := Lib.hid (by omega)
        have hrI : ¬ (r : Int) < R := by omega
        have HNN := Lib.hid (HNO.out (fun j hj d hd => HP.out j (by rw [HRR.out]; exact hj) d hd))
        have HBB := Lib.hid (bl_trans HB2.out hb)
        clear hb
        go_wp2
        go_ret3
        exact ⟨_, by rw [HNN.out.1, HNN.out.2.2]; rfl, by rw [HNN.out.2.1]; exact World.ownsRow_nil _ _ _ _, HBB.out⟩
  · obtain ⟨e1, e2, e3⟩ := us_bad m b g1
    rw [e1, e2, e3]
    have hcs := stCode_cases m b g1
    clear e1 e2 e3 g1
    rcases hcs with ⟨g1, g2⟩ | ⟨g1, g3, g2⟩ | ⟨g1, g3, g4, g2⟩
    · rw [g2]
      rw [g1] at HVM
      clear g1 g2
      go_enter Tryz.func49, Tryz.ntmps49
      go_wp2_with fail
      refine (HVM.out _ HBA.out).mono ?_
      rintro e w1 ⟨rfl, hb1⟩
      have hb01 := bl_trans HBA.out hb1
      go_wp2
      go_ret3
      exact ⟨_, rfl, World.ownsRow_nil _ _ _ _, hb01⟩
    · rw [g2]
      rw [g1] at HVM
      rw [g3] at HLT
      clear g1 g2 g3
      go_enter Tryz.func49, Tryz.ntmps49
      go_wp2_with fail
      refine (HVM.out _ HBA.out).mono ?_
      rintro e w1 ⟨rfl, hb1⟩
      have hb01 := bl_trans HBA.out hb1
      go_wp2_with (go_at_call 84; refine (HLT.out _).mono ?_; rintro e w' ⟨rfl, rfl⟩)
      go_ret3
      exact ⟨_, rfl, World.ownsRow_nil _ _ _ _, hb01⟩
    · rw [g2]
      rw [g1] at HVM
      rw [g3] at HLT
      clear g1 g2 g3
      go_enter Tryz.func49, Tryz.ntmps49
      go_wp2_with fail
      refine (HVM.out _ HBA.out).mono ?_
      rintro e w1 ⟨rfl, hb1⟩
      have hb01 := bl_trans HBA.out hb1
      obtain ⟨X0, -, -, -, x3, -⟩ := HXB.out.step hb1
      go_wp2_with (go_at_call 84; refine (HLT.out _).mono ?_; rintro e w' ⟨rfl, rfl⟩)
      go_ret3
      exact ⟨_, rfl, World.ownsRow_nil _ _ _ _, hb01⟩
def stdyB (c : Int) : Bool := c == 6
def stdyC (c : Int) : Int := if c = 6 then 0 else c
theorem specIsSteady_any (m : Mc) (v : Value) (b : Int) (w : World) (h : MV w v m) (hok : m.ok) (hn : m.bd.ps.length ≤ 10000000) (hn1 : m.ins.length ≤ 10000000) (hn2 : m.outs.length ≤ 10000000) :
    Calls Tryz.prog 50 #[v, .int .i64 b] w fun e w' => e = .returned (.tuple #[.bool (stdyB (usCode m b)), .int .i64 (stdyC (usCode m b))]) ∧ Below w.heap.size w w' := by
  have HC := Lib.hid (fun w1 (hb : Below w.heap.size w w1) => specFirstUnsteady_any m v b w1 (h.step hb) hok hn hn1 hn2)
  obtain ⟨s, si, so, rfl, h0, ⟨ai, capi, rfl, h1⟩, h2⟩ := h
  have HBA := Lib.hid (show Below w.heap.size w (w.alloc (.cells #[.int .i8 m.bd.wd, .int .i8 m.bd.hg, s, .slice ai m.ins.length capi, so] 40)) from bl_alloc (Below.refl _ _))
  obtain ⟨K, hK⟩ : ∃ K, K = usCode m b := ⟨_, rfl⟩
  rw [← hK] at HC ⊢
  clear hK
  rcases Int.decEq K 6 with hne | heq
  · have gk : (K == 6) = false := by simpa using hne
    have HR : Hid (stdyB K = false ∧ stdyC K = K) := Lib.hid ⟨gk, if_neg hne⟩
    rw [HR.out.1, HR.out.2]
    clear hne
    go_enter Tryz.func50, Tryz.ntmps50
    go_wp2_with fail
    refine (HC.out _ HBA.out).mono ?_
    rintro e w1 ⟨v1, rfl, -, hb1⟩
    have hb01 := bl_trans HBA.out hb1
    go_wp2
    go_ret2
    exact ⟨rfl, hb01⟩
  · have gk : (K == 6) = true := by simpa using heq
    have HR : Hid (stdyB K = true ∧ stdyC K = 0) := Lib.hid ⟨gk, if_pos heq⟩
    rw [HR.out.1, HR.out.2]
    clear heq
    go_enter Tryz.func50, Tryz.ntmps50
    go_wp2_with fail
    refine (HC.out _ HBA.out).mono ?_
    rintro e w1 ⟨v1, rfl, -, hb1⟩
    have hb01 := bl_trans HBA.out hb1
    go_wp2
    go_ret2
    exact ⟨rfl, hb01⟩
theorem isSteady_any (m : Mc) (v : Value) (b : Int) (w : World) (h : MVc w v m) (hok : m.ok) (hn : m.bd.ps.length ≤ 10000000) (hn1 : m.ins.length ≤ 10000000) (hn2 : m.outs.length ≤ 10000000) :
    Calls Tryz.prog 51 #[v, .int .i64 b] w fun e w' => e = .returned (.tuple #[.bool (stdyB (usCode m b)), .int .i64 (stdyC (usCode m b))]) ∧ Below w.heap.size w w' := by
  have HC := Lib.hid (fun w1 (hb : Below w.heap.size w w1) => firstUnsteady_any m v b w1 (h.step hb) hok hn hn1 hn2)
  obtain ⟨sa, scap, ia, icap, oa, ocap, rfl, hcap, hps, hins, houts⟩ := h
  have HBA := Lib.hid (show Below w.heap.size w (w.alloc (.cells #[.int .i8 m.bd.wd, .int .i8 m.bd.hg, .slice sa m.bd.ps.length scap, .slice ia m.ins.length icap, .slice oa m.outs.length ocap] 40)) from bl_alloc (Below.refl _ _))
  obtain ⟨K, hK⟩ : ∃ K, K = usCode m b := ⟨_, rfl⟩
  rw [← hK] at HC ⊢
  clear hK
  rcases Int.decEq K 6 with hne | heq
  · have gk : (K == 6) = false := by simpa using hne
    rcases Int.decEq K 0 with hn0 | heq0
    · have gk0 : (K == 0) = false := by simpa using hn0
      have HR : Hid (stdyB K = false ∧ stdyC K = K) := Lib.hid ⟨gk, if_neg hne⟩
      rw [HR.out.1, HR.out.2]
      clear hne hn0
      go_enter Tryz.func51, Tryz.ntmps51
      go_wp2_with fail
      refine (HC.out _ HBA.out).mono ?_
      rintro e w1 ⟨v1, rfl, -, hb1⟩
      have hb01 := bl_trans HBA.out hb1
      go_wp2
      go_ret2
      exact ⟨rfl, hb01⟩
    · have gk0 : (K == 0) = true := by simpa using heq0
      have HR : Hid (stdyB K = false ∧ stdyC K = 0) := Lib.hid ⟨gk, by rw [heq0]; rfl⟩
      rw [HR.out.1, HR.out.2]
      clear hne heq0
      go_enter Tryz.func51, Tryz.ntmps51
      go_wp2_with fail
      refine (HC.out _ HBA.out).mono ?_
      rintro e w1 ⟨v1, rfl, -, hb1⟩
      have hb01 := bl_trans HBA.out hb1
      go_wp2
      go_ret2
      exact ⟨rfl, hb01⟩
  · have gk : (K == 6) = true := by simpa using heq
    have gk0 : (K == 0) = false := by rw [heq]; rfl
    have HR : Hid (stdyB K = true ∧ stdyC K = 0) := Lib.hid ⟨gk, if_pos heq⟩
    rw [HR.out.1, HR.out.2]
    clear heq
    go_enter Tryz.func51, Tryz.ntmps51
    go_wp2_with fail
    refine (HC.out _ HBA.out).mono ?_
    rintro e w1 ⟨v1, rfl, -, hb1⟩
    have hb01 := bl_trans HBA.out hb1
    go_wp2
    go_ret2
    exact ⟨rfl, hb01⟩
end Go.Proofs.YtdhjhnbmecbaaaaGreat
/- Contracts: slices of bool, element for element. -/
namespace Go.Proofs.YtdhjhnbmecbaaaaGreat
open Go.RowKit
set_option linter.unusedVariables false
set_option linter.unusedSimpArgs false
set_option maxHeartbeats 400000
set_option maxRecDepth 100000

def Bo_cells (p : Bool) : List Value := [.bool p]
theorem Bo_len (p : Bool) : (Bo_cells p).length = 1 := rfl
theorem Bo_one (p : Bool) : ∀ u ∈ Bo_cells p, u.oneCell' = true := by
  intro u hu
  simp only [Bo_cells, List.mem_cons, List.not_mem_nil, or_false] at hu
  subst hu; rfl
def BoAt (w : World) (b off : Nat) (p : Bool) : Prop :=
  w.cell? ⟨b, off, none⟩ = some (.bool p)
theorem bos_get {B : Nat} {w : World} {a : Option Addr} {ps : List Bool} (h : SlAt B w a (flat Bo_cells ps)) {k : Nat} (hk : k < ps.length) :
    ∃ b off, a = some ⟨b, off, none⟩ ∧ b < B ∧ BoAt w b (off + k * 1) ps[k] := by
  obtain ⟨b, off, h1, h2, h3⟩ := SlAt.get Bo_len (by omega) h hk
  exact ⟨b, off, h1, h2, h3 0 _ rfl⟩
def mkBo (k : Int) (n : Nat) : List Bool := (List.range n).map fun (i : Nat) => ((k + (i : Int)) % 3 == 0)
theorem mkBo_succ (k : Int) (n : Nat) : mkBo k (n + 1) = mkBo k n ++ [(k + n) % 3 == 0] := by simp [mkBo, List.range_succ]
theorem mkBo_len (k : Int) (n : Nat) : (mkBo k n).length = n := by simp [mkBo]
theorem markBoolS_any {base n : Nat} {v : Value} {cs : List Value} (k0 : Int) (w : World) (hown : w.ownsRow base 4 1 v n cs) (hn : n ≤ 10000000) (h1 : 0 ≤ k0) (h2 : k0 ≤ 1000000000) :
    Calls Tryz.prog 44 #[v, .int .i64 k0] w fun e w' => e = .returned (.int .i64 (k0 + n)) ∧ w'.ownsRow base 4 1 v n (flat Bo_cells (mkBo k0 n)) ∧ w.grownBy w' v.ownBlock := by
  have hlen := hown.1
  rcases id hown.2 with ⟨rfl, rfl⟩ | ⟨g, cap, cur, rfl, -⟩
  · go_enter Tryz.func44, Tryz.ntmps44
    go_wp2
    refine wp_loop_rounds 1 ?_
    rw [rounds_succ]; go_wp2
    go_ret
    exact ⟨ret_int (by simp), by simpa [mkBo, flat_nil] using World.ownsRow_nil w base 4 1, World.grownBy.refl _ _⟩
  · go_enter Tryz.func44, Tryz.ntmps44
    go_wp2
    go_loopw [1, 5] (fun kk i wr => ∃ j : Nat, ∃ R : List Value, j ≤ n ∧ i = .int .i64 j ∧ kk = .int .i64 (k0 + j) ∧ R.length = (n - j) * 1 ∧ wr.ownsRow base 4 1 (Value.slice (some { block := g, off := 0 }) n cap) n (flat Bo_cells (mkBo k0 j) ++ R) ∧ w.grownBy wr (some g)) (fun _ i _ => n - (intOf i).toNat)
    case atStart => exact ⟨0, cs, by omega, rfl, by simp, by simpa using hlen, by simpa [mkBo, flat_nil] using hown, World.grownBy.refl _ _⟩
    case round =>
      clear hown hlen
      obtain ⟨j, R, hj, rfl, rfl, hR, hown, hg⟩ := hrel
      by_cases hlt : j < n
      · skip
        obtain ⟨⟨v0, c0⟩, f0⟩ := own_cell hown (j := j * 1) (by omega)
        simp only [Nat.mul_one] at c0 f0
        go_wp2
        have hown3 := own_setCells ([.bool ((k0 + (j : Int)) % 3 == 0)]) hown (j := j * 1) (by rw [flat_length Bo_len, mkBo_len]) (by rw [hR]; simp; omega)
        have hg3 := grown_trans hg (grown_setCells g ([.bool ((k0 + (j : Int)) % 3 == 0)]) wr (j * 1))
        simp only [Nat.mul_one] at hown3 hg3
        clear c0 f0 hown hg
        go_roundw
        case rel => exact ⟨j + 1, R.drop 1, by omega, by go_num, by simp; omega, by simp [hR]; omega, by rw [mkBo_succ, flat_append, flat_cons, flat_nil, List.append_nil]; exact hown3, hg3⟩
        case measure => simp [intOf]; omega
      · go_wp2
        go_ret
        have hjn : j = n := by omega
        have hR0 : R = [] := by apply List.eq_nil_of_length_eq_zero; rw [hR, hjn]; simp
        rw [hR0, List.append_nil, hjn] at hown
        exact ⟨ret_int (by rw [hjn]), hown, hg⟩
theorem heldBoolS_any {B : Nat} (a : Option Addr) (n cap : Nat) (k0 : Int) (w : World) (h : SlAt B w a (flat Bo_cells (mkBo k0 n))) (hn : n ≤ 10000000) (h1 : 0 ≤ k0) (h2 : k0 ≤ 1000000000) :
    Calls Tryz.prog 45 #[.slice a n cap, .int .i64 k0] w fun e w' => e = .returned (.int .i64 (k0 + n)) ∧ w = w' := by
  go_enter Tryz.func45, Tryz.ntmps45
  go_wp2
  go_loopw [1, 5] (fun kk i wr => ∃ j : Nat, j ≤ n ∧ i = .int .i64 j ∧ kk = .int .i64 (k0 + j) ∧ wr = w) (fun _ i _ => n - (intOf i).toNat)
  case atStart => exact ⟨0, by omega, rfl, by simp, rfl⟩
  case round =>
    obtain ⟨j, hj, rfl, rfl, rfl⟩ := hrel
    by_cases hlt : j < n
    · obtain ⟨b, off, rfl, hbl, hat⟩ := bos_get h (k := j) (by rw [mkBo_len]; exact hlt)
      have hj5 : (mkBo k0 n)[j]'(by rw [mkBo_len]; exact hlt) = ((k0 + (j : Int)) % 3 == 0) := by simp [mkBo]
      rw [hj5] at hat
      clear hj5
      unfold BoAt at hat
      simp only [Nat.mul_one] at hat
      go_wp2
      go_roundw
      case rel => exact ⟨j + 1, by omega, by go_num, by simp; omega, by trivial⟩
      case measure => simp [intOf]; omega
    · go_wp2
      go_ret
      have hjn : j = n := by omega
      first | exact ⟨ret_int (by rw [hjn]), rfl⟩ | exact ⟨ret_int (by rw [hjn]), trivial⟩
theorem eqBoolS_any {B : Nat} (a a' : Option Addr) (cap cap' : Nat) (ps qs : List Bool) (w : World) (hps : SlAt B w a (flat Bo_cells ps)) (hqs : SlAt B w a' (flat Bo_cells qs)) (hB : B ≤ w.heap.size) (hn : ps.length ≤ 10000000) (hn' : qs.length ≤ 10000000) :
    Calls Tryz.prog 43 #[.slice a ps.length cap, .slice a' qs.length cap'] w fun e w' => e = .returned (.bool (decide (ps = qs))) ∧ Below w.heap.size w w' := by
  by_cases hl : ps.length = qs.length
  · have hl2 : ((ps.length : Int) != (qs.length : Int)) = false := by simp [hl]
    have Hl := Lib.hid hl; clear hl
    go_enter Tryz.func43, Tryz.ntmps43
    go_wp2
    go_loopw [5] (fun i wr => ∃ k : Nat, k ≤ ps.length ∧ i = .int .i64 k ∧ ps.take k = qs.take k ∧ Below w.heap.size w wr) (fun i _ => ps.length - (intOf i).toNat)
    case atStart => exact ⟨0, by omega, rfl, by simp, Below.refl _ _⟩
    case round =>
      obtain ⟨k, hk, rfl, heq, hb⟩ := hrel
      have Heq := Lib.hid heq; clear heq
      by_cases hlt : k < ps.length
      · have hlt' : k < qs.length := by rw [← Hl.out]; exact hlt
        obtain ⟨b, off, rfl, hbl, hat⟩ := bos_get (hps.below hb hB) hlt
        obtain ⟨b', off', rfl, hbl', hat'⟩ := bos_get (hqs.below hb hB) hlt'
        unfold BoAt at hat hat'
        simp only [Nat.mul_one] at hat hat'
        go_wp2
        go_quiet (fail)
        go_wp2
        · have h1 : (ps[k] != qs[k]) = true := by assumption
          go_ret
          have hne : ps ≠ qs := by rintro rfl; simp at h1
          exact ⟨by simp [hne], (by repeat (first | with_reducible exact Below.refl _ _ | with_reducible assumption | with_reducible apply bl_drewN | with_reducible apply bl_drew | with_reducible apply bl_alloc | (with_reducible refine bl_set ?_ (by first | (simp; done) | (simp; omega)) _) | with_reducible refine bl_trans ?_ (by with_reducible assumption)))⟩
        · have h1 : (ps[k] != qs[k]) = false := by assumption
          have h2 : ps[k] = qs[k] := by simpa using h1
          go_roundw
          case rel => exact ⟨k + 1, by omega, by go_num, by rw [List.take_succ_eq_append_getElem hlt, List.take_succ_eq_append_getElem hlt', Heq.out, h2], (by repeat (first | with_reducible exact Below.refl _ _ | with_reducible assumption | with_reducible apply bl_drewN | with_reducible apply bl_drew | with_reducible apply bl_alloc | (with_reducible refine bl_set ?_ (by first | (simp; done) | (simp; omega)) _) | with_reducible refine bl_trans ?_ (by with_reducible assumption)))⟩
          case measure => simp [intOf]; omega
      · go_wp2
        go_ret
        have hne : ps = qs := by
          have := Heq.out
          rwa [List.take_of_length_le (by omega), List.take_of_length_le (by have := Hl.out; omega)] at this
        exact ⟨by simp [hne], (by repeat (first | with_reducible exact Below.refl _ _ | with_reducible assumption | with_reducible apply bl_drewN | with_reducible apply bl_drew | with_reducible apply bl_alloc | (with_reducible refine bl_set ?_ (by first | (simp; done) | (simp; omega)) _) | with_reducible refine bl_trans ?_ (by with_reducible assumption)))⟩
  · have hl2 : ((ps.length : Int) != (qs.length : Int)) = true := by simp; omega
    have Hl := Lib.hid hl; clear hl
    go_enter Tryz.func43, Tryz.ntmps43
    go_wp2
    go_ret
    have hne : ps ≠ qs := fun h => Hl.out (by rw [h])
    exact ⟨by simp [hne], (by repeat (first | with_reducible exact Below.refl _ _ | with_reducible assumption | with_reducible apply bl_drewN | with_reducible apply bl_drew | with_reducible apply bl_alloc | (with_reducible refine bl_set ?_ (by first | (simp; done) | (simp; omega)) _) | with_reducible refine bl_trans ?_ (by with_reducible assumption)))⟩
theorem eqBoolS_rv {w : World} {v v' : Value} {ps qs : List Bool} (h : RV Bo_cells w v ps) (h' : RV Bo_cells w v' qs) (hn : ps.length ≤ 10000000) (hn' : qs.length ≤ 10000000) :
    Calls Tryz.prog 43 #[v, v'] w fun e w' => e = .returned (.bool (decide (ps = qs))) ∧ Below w.heap.size w w' := by
  obtain ⟨a, cap, rfl, h⟩ := h
  obtain ⟨a', cap', rfl, h'⟩ := h'
  exact eqBoolS_any a a' cap cap' ps qs w h h' (Nat.le_refl _) hn hn'
theorem eqBoolS_yes {w : World} {v v' : Value} {ps : List Bool} (h : RV Bo_cells w v ps) (h' : RV Bo_cells w v' ps) (hn : ps.length ≤ 10000000) :
    Calls Tryz.prog 43 #[v, v'] w fun e w' => e = .returned (.bool true) ∧ Below w.heap.size w w' := by
  have := eqBoolS_rv h h' hn hn
  simpa using this
theorem heldBoolS_own {w : World} {base n : Nat} {v : Value} (k0 : Int) (h : w.ownsRow base 4 1 v n (flat Bo_cells (mkBo k0 n))) (hn : n ≤ 10000000) (h1 : 0 ≤ k0) (h2 : k0 ≤ 1000000000) :
    Calls Tryz.prog 45 #[v, .int .i64 k0] w fun e w' => e = .returned (.int .i64 (k0 + n)) ∧ w = w' := by
  obtain ⟨a, cap, rfl, h, -⟩ := own_at h
  exact heldBoolS_any a n cap k0 w h hn h1 h2
end Go.Proofs.YtdhjhnbmecbaaaaGreat
/- Contracts: MachineNeeds (both). -/
namespace Go.Proofs.YtdhjhnbmecbaaaaGreat
open Go.RowKit
set_option linter.unusedVariables false
set_option linter.unusedSimpArgs false
set_option maxHeartbeats 400000
set_option maxRecDepth 100000
theorem indexFuncU64_mem {B : Nat} (K : Nat) (caps : Array Value) (a : Option Addr) (cap : Nat) (ps : List Int) (w : World) (hps : SlAt B w a (flat U64_cells ps)) (hB : B ≤ w.heap.size) (hn : ps.length ≤ 10000000) 
   (eg : ∀ (args : Array Value) (w : World), (callFunc K args).run Tryz.prog w = .ok (.enter K args) w) (q : Int → Bool) (hf : ∀ (p : Int) (w1 : World), p ∈ ps → Below w.heap.size w w1 → Calls Tryz.prog K (#[.int .u64 p] ++ caps) w1 fun e w' => e = .returned (.bool (q p)) ∧ Below w1.heap.size w1 w'):
    Calls Tryz.prog 170 #[.slice a ps.length cap, .func (.func K) #[] caps] w fun e w' => e = .returned (.int .i64 ((ps.findIdx? q).elim (-1) (fun n => (n : Int)))) ∧ Below w.heap.size w w' := by
  go_enter Tryz.func170, Tryz.ntmps170
  go_wp2
  go_loopw [8] (fun i wr => ∃ k : Nat, k ≤ ps.length ∧ i = .int .i64 k ∧ (ps.take k).findIdx? q = none ∧ Below w.heap.size w wr) (fun i _ => ps.length - (intOf i).toNat)
  case atStart => exact ⟨0, by omega, rfl, by simp, Below.refl _ _⟩
  case round =>
    obtain ⟨k, hk, rfl, hfi, hb⟩ := hrel
    have Hfi := Lib.hid hfi; clear hfi
    by_cases hlt : k < ps.length
    · obtain ⟨b, off, rfl, hbl, hat⟩ := u64s_get (hps.below hb hB) hlt
      unfold U64At at hat
      rw [Nat.mul_one] at hat
      have Hf := Lib.hid hf; clear hf
      go_wp2_with (refine (Hf.out ps[k] _ (List.getElem_mem hlt) hb).mono ?_; rintro e w' ⟨rfl, hb2⟩)
      · have h1 : q ps[k] = true := by assumption
        go_ret
        refine ⟨?_, (by repeat (first | with_reducible exact Below.refl _ _ | with_reducible assumption | with_reducible apply bl_drewN | with_reducible apply bl_drew | with_reducible apply bl_alloc | (with_reducible refine bl_set ?_ (by first | (simp; done) | (simp; omega)) _) | with_reducible refine bl_trans ?_ (by with_reducible assumption)))⟩
        have h2 : ps.findIdx? q = some k := by
          rw [List.findIdx?_eq_some_iff_getElem]
          refine ⟨hlt, h1, fun j hj => ?_⟩
          have h3 := Hfi.out
          rw [List.findIdx?_eq_none_iff] at h3
          have := h3 ps[j] (by rw [List.mem_take_iff_getElem]; exact ⟨j, by omega, rfl⟩)
          simpa using this
        rw [h2]; rfl
      · have h1 : q ps[k] = false := by assumption
        go_roundw
        case rel => exact ⟨k + 1, by omega, by go_num, by have := Hfi.out; rw [List.take_succ_eq_append_getElem hlt, List.findIdx?_append, this]; simp [h1], (by repeat (first | with_reducible exact Below.refl _ _ | with_reducible assumption | with_reducible apply bl_drewN | with_reducible apply bl_drew | with_reducible apply bl_alloc | (with_reducible refine bl_set ?_ (by first | (simp; done) | (simp; omega)) _) | with_reducible refine bl_trans ?_ (by with_reducible assumption)))⟩
        case measure => simp [intOf]; omega
    · go_wp2
      go_ret
      refine ⟨?_, (by repeat (first | with_reducible exact Below.refl _ _ | with_reducible assumption | with_reducible apply bl_drewN | with_reducible apply bl_drew | with_reducible apply bl_alloc | (with_reducible refine bl_set ?_ (by first | (simp; done) | (simp; omega)) _) | with_reducible refine bl_trans ?_ (by with_reducible assumption)))⟩
      have h2 := Hfi.out
      rw [List.take_of_length_le (by omega)] at h2
      rw [h2]; rfl
theorem containsFuncU64_mem {B : Nat} (K : Nat) (caps : Array Value) (a : Option Addr) (cap : Nat) (ps : List Int) (w : World) (hps : SlAt B w a (flat U64_cells ps)) (hB : B ≤ w.heap.size) (hn : ps.length ≤ 10000000)
   (eg : ∀ (args : Array Value) (w : World), (callFunc K args).run Tryz.prog w = .ok (.enter K args) w) (q : Int → Bool) (hf : ∀ (p : Int) (w1 : World), p ∈ ps → Below w.heap.size w w1 → Calls Tryz.prog K (#[.int .u64 p] ++ caps) w1 fun e w' => e = .returned (.bool (q p)) ∧ Below w1.heap.size w1 w') :
    Calls Tryz.prog 131 #[.slice a ps.length cap, .func (.func K) #[] caps] w fun e w' => e = .returned (.bool (ps.any q)) ∧ Below w.heap.size w w' := by
  have H := Lib.hid (indexFuncU64_mem K caps a cap ps w hps hB hn eg q hf)
  have HV := Lib.hid (show decide (0 ≤ (ps.findIdx? q).elim (-1 : Int) (fun n => (n : Int))) = ps.any q by
    cases hf : ps.findIdx? q with
    | none =>
      rw [List.findIdx?_eq_none_iff] at hf
      have : ps.any q = false := by rw [Bool.eq_false_iff]; intro h; rw [List.any_eq_true] at h; obtain ⟨x, hx, hq⟩ := h; rw [hf x hx] at hq; cases hq
      rw [this]; rfl
    | some k =>
      rw [List.findIdx?_eq_some_iff_getElem] at hf
      obtain ⟨h1, h2, -⟩ := hf
      have : ps.any q = true := by rw [List.any_eq_true]; exact ⟨_, List.getElem_mem h1, h2⟩
      rw [this]; simp)
  go_enter Tryz.func131, Tryz.ntmps131
  go_wp2_with fail
  refine H.out.mono ?_
  rintro e w1 ⟨rfl, hb⟩
  go_wp2
  go_ret
  exact ⟨by rw [← HV.out]; rfl, (by repeat (first | with_reducible exact Below.refl _ _ | with_reducible assumption | with_reducible apply bl_drewN | with_reducible apply bl_drew | with_reducible apply bl_alloc | (with_reducible refine bl_set ?_ (by first | (simp; done) | (simp; omega)) _) | with_reducible refine bl_trans ?_ (by with_reducible assumption)))⟩
/-- Whether something changes with input i, told by the first r rows. -/
def ndTo (f : Nat → Nat) (i r : Nat) : Bool := (List.range r).any (fun s => f s != f (s ^^^ 2 ^ i))
theorem ndTo_succ (f : Nat → Nat) (i r : Nat) : ndTo f i (r + 1) = (ndTo f i r || (f r != f (r ^^^ 2 ^ i))) := by
  unfold ndTo
  rw [List.range_succ, List.any_append]
  simp
def ndSt (f : Nat → Nat) (n R i r : Nat) : List Bool := (List.range n).map (fun j => if j < i then ndTo f j R else if j = i then ndTo f j r else false)
theorem ndSt_len (f : Nat → Nat) (n R i r : Nat) : (ndSt f n R i r).length = n := by simp [ndSt]
theorem ndSt_get (f : Nat → Nat) (n R i r j : Nat) (hj : j < n) : (ndSt f n R i r)[j]'(by rw [ndSt_len]; exact hj) = if j < i then ndTo f j R else if j = i then ndTo f j r else false := by simp [ndSt]
theorem ndSt_zero (f : Nat → Nat) (n R : Nat) : ndSt f n R 0 0 = List.replicate n false := by
  apply List.ext_getElem
  · simp [ndSt]
  · intro j h1 h2
    have hj : j < n := by rw [ndSt_len] at h1; exact h1
    rw [ndSt_get f n R 0 0 j hj, if_neg (by omega)]
    simp [ndTo]
theorem ndSt_end (f : Nat → Nat) (n R i : Nat) : ndSt f n R i R = ndSt f n R (i + 1) 0 := by
  unfold ndSt
  apply List.map_congr_left
  intro j hj
  by_cases h1 : j < i
  · rw [if_pos h1, if_pos (by omega)]
  · rw [if_neg h1]
    by_cases h2 : j = i
    · rw [if_pos h2, if_pos (by omega)]
    · rw [if_neg h2, if_neg (by omega)]
      split <;> simp [ndTo]
theorem ndSt_set (f : Nat → Nat) (n R i r : Nat) (hi : i < n) (b : Bool) (hb : ndTo f i (r + 1) = b) : (ndSt f n R i r).set i b = ndSt f n R i (r + 1) := by
  apply List.ext_getElem
  · simp [ndSt]
  · intro j h1 h2
    have hj : j < n := by rw [ndSt_len] at h2; exact h2
    rw [List.getElem_set, ndSt_get f n R i (r + 1) j hj]
    by_cases e : i = j
    · subst e; rw [if_pos rfl, if_neg (by omega), if_pos rfl, hb]
    · rw [if_neg e, ndSt_get f n R i r j hj]
      by_cases h3 : j < i
      · rw [if_pos h3, if_pos h3]
      · rw [if_neg h3, if_neg h3, if_neg (by omega), if_neg (by omega)]
theorem ndSt_same (f : Nat → Nat) (n R i r : Nat) (hb : ndTo f i (r + 1) = ndTo f i r) : ndSt f n R i (r + 1) = ndSt f n R i r := by
  unfold ndSt
  apply List.map_congr_left
  intro j hj
  by_cases h1 : j < i
  · rw [if_pos h1, if_pos h1]
  · rw [if_neg h1, if_neg h1]
    by_cases h2 : j = i
    · rw [if_pos h2, if_pos h2, h2, hb]
    · rw [if_neg h2, if_neg h2]
noncomputable def mF (m : Mc) (r : Nat) : Nat := mOut m r (zeros m.ins.length)
noncomputable def nvList (m : Mc) : List Bool := if vMc m = true then ndSt (mF m) m.ins.length (mRows m) m.ins.length 0 else []
theorem nvList_len (m : Mc) : (nvList m).length ≤ m.ins.length := by
  unfold nvList; split; rw [ndSt_len]; exact Nat.le_refl _; exact Nat.zero_le _
theorem xor_lt (n r i : Nat) (hr : r < 2 ^ n) (hi : i < n) : r ^^^ 2 ^ i < 2 ^ n := Nat.xor_lt_two_pow hr (Nat.pow_lt_pow_right (by omega) hi)
theorem mF_lt (m : Mc) (r : Nat) : mF m r < 2 ^ m.outs.length := bitsTo_lt _ _
/-- Two rows differ exactly if some table tells them apart. -/
theorem nd_tabs (f : Nat → Nat) (n R r s : Nat) (hr : r < R) (hs : s < R) (hf : ∀ r, f r < 2 ^ n) :
    ((List.range n).map (fun i => ((tabTo f i R : Nat) : Int))).any (fun t => t.toNat.testBit r != t.toNat.testBit s) = (f r != f s) := by
  rw [List.any_map]
  rw [Bool.eq_iff_iff, List.any_eq_true, bne_iff_ne]
  constructor
  · rintro ⟨i, hi, h⟩ e
    simp only [Function.comp, Int.toNat_natCast, tabTo_bit, hr, hs, decide_true, Bool.true_and, e, bne_self_eq_false] at h
    cases h
  · intro hne
    have h2 : ∃ i, (f r).testBit i ≠ (f s).testBit i := by
      rcases Classical.em (∃ i, (f r).testBit i ≠ (f s).testBit i) with h | h
      · exact h
      · exact absurd (Nat.eq_of_testBit_eq (fun i => Classical.byContradiction (fun h3 => h ⟨i, h3⟩))) hne
    obtain ⟨i, hi⟩ := h2
    have hin : i < n := by
      rcases Nat.lt_or_ge i n with h | h
      · exact h
      · have h4 := pow_mono2 h
        have h5 := hf r
        have h6 := hf s
        rw [Nat.testBit_lt_two_pow (by omega), Nat.testBit_lt_two_pow (by omega)] at hi
        exact absurd rfl hi
    refine ⟨i, List.mem_range.2 hin, ?_⟩
    simp only [Function.comp, Int.toNat_natCast, tabTo_bit, hr, hs, decide_true, Bool.true_and, bne_iff_ne]
    exact hi
theorem flatBo (xs : List Bool) : flat Bo_cells xs = xs.map Value.bool := by
  induction xs with
  | nil => rfl
  | cons x xs ih => rw [flat_cons, ih]; rfl
theorem flatBo_false (n : Nat) : flat Bo_cells (List.replicate n false) = List.replicate n (.bool false) := by
  rw [flatBo, List.map_replicate]
theorem bo_cell {w : World} {base g n cap : Nat} {xs : List Bool} (h : w.ownsRow base 4 1 (.slice (some ⟨g, 0, none⟩) n cap) n (flat Bo_cells xs)) (j : Nat) (hj : j < xs.length) : w.cell? ⟨g, j, none⟩ = some (.bool xs[j]) ∧ w.frozen? ⟨g, j, none⟩ = false := by
  have hl := h.1
  rw [flat_length Bo_len] at hl
  have h1 := h.cellAt j (by omega)
  rw [h1, flatBo]
  exact ⟨by simp [hj], (own_cell h (j := j) (by omega)).2⟩
theorem bo_set {w : World} {base g n cap : Nat} {xs : List Bool} (h : w.ownsRow base 4 1 (.slice (some ⟨g, 0, none⟩) n cap) n (flat Bo_cells xs)) (j : Nat) (x : Bool) : (w.setCell ⟨g, j, none⟩ (.bool x)).ownsRow base 4 1 (.slice (some ⟨g, 0, none⟩) n cap) n (flat Bo_cells (xs.set j x)) := by
  have h1 := (h.stored j (.bool x)).1
  rw [flatBo] at h1 ⊢
  rwa [List.map_set]
theorem Tryz.infoBoolN : (Tryz.prog.info? 4).map (fun i => (i.zero, i.size, i.bytes)) = some (some (.bool false), 1, 1) := by kernel_rfl
theorem mAll_get (m : Mc) (R r : Nat) (hr : r < (mAll m R).length) : (mAll m R)[r] = ((mF m r : Nat) : Int) := by simp [mAll, mF]
theorem quiet_same {P : Program} {f : FuncId} {args : Array Value} {w : World} {n : Nat} {v : Value} (h : Calls P f args (w.drewN n) fun e w' => e = .returned v ∧ w.drewN n = w') : Calls P f args (w.drewN n) fun e w'' => e = .returned v ∧ ∃ m, w'' = w.drewN m :=
  h.mono fun _ _ ⟨he, hm⟩ => ⟨he, n, hm.symm⟩
theorem wrap_pow (i : Nat) (hi : i ≤ 6) : ∃ q : Int, (2 : Int) ^ i = q ∧ 1 ≤ q ∧ q ≤ 64 ∧ q = ((2 ^ i : Nat) : Int) ∧ IntKind.i64.wrap q = q := by
  obtain ⟨q, h1, h2, h3, h4⟩ := pow_i i (by omega)
  have h5 := pow_mono2 (a := i) (b := 6) hi
  exact ⟨q, h1, h2, by omega, h4, wrap_i64' q (by omega) (by omega)⟩
theorem xor_i64 (r i : Nat) (q : Int) (hq : q = ((2 ^ i : Nat) : Int)) (hr : r < 64) (hi : i ≤ 6) : bits .xor .i64 (r : Int) q = ((r ^^^ 2 ^ i : Nat) : Int) := by
  have h5 := pow_mono2 (a := i) (b := 6) hi
  rw [hq]
  exact (bits_i64 r (2 ^ i) (by omega) (by omega)).2.2
set_option maxHeartbeats 1600000 in
theorem specMachineNeeds_any (m : Mc) (v : Value) (w : World) (h : MV w v m) (hok : m.ok) (hn : m.bd.ps.length ≤ 10000000) (hn1 : m.ins.length ≤ 10000000) (hn2 : m.outs.length ≤ 10000000) :
    Calls Tryz.prog 41 #[v] w fun e w' => ∃ v, e = .returned (.tuple #[v, .int .i64 (mCode m)]) ∧ w'.ownsRow w.heap.size 4 1 v (nvList m).length (flat Bo_cells (nvList m)) ∧ Below w.heap.size w w' := by
  obtain ⟨s, si, so, rfl, h0, ⟨ai, capi, rfl, h1⟩, h2⟩ := h
  have HM := Lib.hid (MP.new (m := m) (w := w) h0 ⟨ai, capi, rfl, h1⟩ h2 40)
  have HBA := Lib.hid (show Below w.heap.size w (w.alloc (.cells #[.int .i8 m.bd.wd, .int .i8 m.bd.hg, s, .slice ai m.ins.length capi, so] 40)) from bl_alloc (Below.refl _ _))
  have HXB := Lib.hid (BX5.new w (.int .i8 m.bd.wd) (.int .i8 m.bd.hg) s (.slice ai m.ins.length capi) so 40)
  have HOK := Lib.hid (l03Ok_any w.heap.size m _ HM.out hok hn hn1 hn2)
  rcases Bool.eq_false_or_eq_true (vMc m) with g1 | g1
  · obtain ⟨hvb, h60, hi1, hi6, ho1, ho8, -⟩ := vMc_parts m g1
    have HC : Hid (mCode m = 0) := Lib.hid (by unfold mCode; rw [if_pos g1])
    have HLV : Hid (nvList m = ndSt (mF m) m.ins.length (mRows m) m.ins.length 0) := Lib.hid (by unfold nvList; rw [if_pos g1])
    have HLL : Hid ((ndSt (mF m) m.ins.length (mRows m) m.ins.length 0).length = m.ins.length) := Lib.hid (ndSt_len _ _ _ _ _)
    rw [HC.out, HLV.out, HLL.out]
    rw [g1] at HOK
    have HALL := Lib.hid (fun w1 (hb : Below (w.alloc (.cells #[.int .i8 m.bd.wd, .int .i8 m.bd.hg, s, .slice ai m.ins.length capi, so] 40)).heap.size (w.alloc (.cells #[.int .i8 m.bd.wd, .int .i8 m.bd.hg, s, .slice ai m.ins.length capi, so] 40)) w1) => l03All_any w.heap.size m w1 (HM.out.step hb) g1 hok)
    have hR64 := mRows_le m hi6
    have HXL : Hid (∀ r i, r < mRows m → i < m.ins.length → r ^^^ 2 ^ i < mRows m) := Lib.hid (fun r i => xor_lt m.ins.length r i)
    have HAL := Lib.hid (mAll_len m (mRows m))
    have HAG := Lib.hid (mAll_get m (mRows m))
    obtain ⟨R, hRR⟩ : ∃ R, R = mRows m := ⟨_, rfl⟩
    rw [← hRR] at HALL hR64 HAL HAG HXL ⊢
    obtain ⟨all, hall⟩ : ∃ all, all = mAll m R := ⟨_, rfl⟩
    rw [← hall] at HALL HAL HAG
    obtain ⟨f, hf⟩ : ∃ f, f = mF m := ⟨_, rfl⟩
    rw [← hf] at HAG ⊢
    obtain ⟨res, hres⟩ : ∃ res, res = ndSt f m.ins.length R m.ins.length 0 := ⟨_, rfl⟩
    rw [← hres]
    have HRES := Lib.hid hres
    clear hRR hall hf g1 HC HLV HLL hres
    obtain ⟨i0, hi0, hiz0, hiz1, hiz2⟩ := info_parts Tryz.infoBoolN
    go_enter Tryz.func41, Tryz.ntmps41
    go_wp2_with fail
    refine HOK.out.mono ?_
    rintro e w1 ⟨rfl, hb1⟩
    have HB1 := Lib.hid hb1
    obtain ⟨X0, -, -, -, x3, -⟩ := HXB.out.step hb1
    clear hb1
    go_wp2_with fail
    refine (HALL.out _ HB1.out).mono ?_
    rintro e w2 ⟨va, rfl, hownA, hb2⟩
    obtain ⟨aa, acap, rfl, hslA, -, -⟩ := own_at hownA
    have HSA := Lib.hid hslA
    have HB2 := Lib.hid (bl_trans HB1.out hb2)
    have y3 : w2.cell? ⟨w.heap.size, 3, none⟩ = some (.slice ai m.ins.length capi) := by rw [hb2.cell (p := ⟨w.heap.size, 3, none⟩) X0]; exact x3
    clear hownA hslA hb2 x3 X0
    go_wp2_with (refine wpList_make_full _ rfl (.tmp 14) (.tmp 14) 63 rfl w2.heap.size 4 i0 _ 1 Tryz.underlying63 hi0 hiz0 hiz1 _ _ _ _ m.ins.length rfl rfl rfl rfl (by rw [hiz2]; omega) (by unfold maxLen; omega) (Nat.le_refl _) ?_; intro w3 hmade hgrow)
    rw [made_rep _ rfl, ← flatBo_false, ← ndSt_zero f m.ins.length R] at hmade
    have hb3 : Below w2.heap.size w2 w3 := bl_grown (Below.refl _ _) hgrow (by simp)
    have HMD := Lib.hid (And.intro hmade hb3)
    clear hmade hb3 hgrow y3
    go_wp2
    go_loopw [6] (fun ix wr => ∃ i : Nat, i ≤ m.ins.length ∧ ix = .int .i64 i ∧ wr.ownsRow w2.heap.size 4 1 (.slice (some ⟨w2.heap.size, 0, none⟩) m.ins.length m.ins.length) m.ins.length (flat Bo_cells (ndSt f m.ins.length R i 0)) ∧ Below w2.heap.size w2 wr) (fun ix _ => m.ins.length - (intOf ix).toNat)
    case atStart => exact ⟨0, by omega, rfl, HMD.out.1, HMD.out.2⟩
    case round =>
      obtain ⟨i, hi, rfl, hown, hb⟩ := hrel
      by_cases hlt : i < m.ins.length
      · have hiI : (i : Int) < m.ins.length := by omega
        have HOWN := Lib.hid hown
        have HB := Lib.hid hb
        clear hown hb
        go_wp2
        go_loopw [7] (fun rx wi => ∃ r : Nat, r ≤ R ∧ rx = .int .i64 r ∧ wi.ownsRow w2.heap.size 4 1 (.slice (some ⟨w2.heap.size, 0, none⟩) m.ins.length m.ins.length) m.ins.length (flat Bo_cells (ndSt f m.ins.length R i r)) ∧ Below w2.heap.size w2 wi) (fun rx _ => R - (intOf rx).toNat)
        case atStart => exact ⟨0, by omega, rfl, HOWN.out, HB.out⟩
        case round =>
          obtain ⟨r, hr, rfl, hown, hb⟩ := hrel
          by_cases hltr : r < R
          · obtain ⟨k0, k1⟩ := bo_cell hown i (by rw [ndSt_len]; exact hlt)
            obtain ⟨o, k0⟩ : ∃ o, wr.cell? ⟨w2.heap.size, i, none⟩ = some (.bool o) := ⟨_, k0⟩
            have hrI : (r : Int) < R := by omega
            have hra : r < all.length := by rw [HAL.out]; exact hltr
            obtain ⟨x, hx⟩ : ∃ x, x = r ^^^ 2 ^ i := ⟨_, rfl⟩
            have hxR : x < R := by rw [hx]; exact HXL.out r i hltr hlt
            have hxI : (x : Int) < R := by omega
            have hxa : x < all.length := by rw [HAL.out]; exact hxR
            obtain ⟨ba, offa, rfl, hba, hata⟩ := n64s_get HSA.out hra
            obtain ⟨bx, offx, hex, -, hatx⟩ := n64s_get HSA.out hxa
            simp only [Option.some.injEq, Addr.mk.injEq, and_true] at hex
            obtain ⟨rfl, rfl⟩ := hex
            unfold N64At at hata hatx
            rw [Nat.mul_one, HAG.out r hra] at hata
            rw [Nat.mul_one, HAG.out x hxa] at hatx
            have q0 : wr.cell? ⟨ba, offa + r, none⟩ = some (.int .i64 ((f r : Nat) : Int)) := by rw [hb.cell (p := ⟨_, _, none⟩) hba]; exact hata
            have q1 : wr.cell? ⟨ba, offa + x, none⟩ = some (.int .i64 ((f x : Nat) : Int)) := by rw [hb.cell (p := ⟨_, _, none⟩) hba]; exact hatx
            obtain ⟨q, hq1, hq2, hq3, hq4, hq5⟩ := wrap_pow i (by omega)
            have hxx : bits .xor .i64 (r : Int) q = (x : Int) := by rw [hx]; exact xor_i64 r i q hq4 (by omega) (by omega)
            have hmin : min i 64 = i := Nat.min_eq_left (by omega)
            have HOWN := Lib.hid hown
            have HB := Lib.hid hb
            have HSU : Hid (ndTo f i (r + 1) = (ndTo f i r || (f r != f x))) := Lib.hid (by rw [ndTo_succ, hx])
            have HND : Hid ((((f r : Nat) : Int) != ((f x : Nat) : Int)) = (f r != f x)) := Lib.hid (by rw [Bool.eq_iff_iff, bne_iff_ne, bne_iff_ne]; omega)
            obtain ⟨F1, hF1⟩ : ∃ F1 : Int, F1 = ((f r : Nat) : Int) := ⟨_, rfl⟩
            obtain ⟨F2, hF2⟩ : ∃ F2 : Int, F2 = ((f x : Nat) : Int) := ⟨_, rfl⟩
            rw [← hF1] at q0
            rw [← hF2] at q1
            rw [← hF1, ← hF2] at HND
            have b20 : ∀ q, Below w2.heap.size w2 (wr.drewN q) := fun q => bl_drewN hb
            have HB20 := Lib.hid b20
            have HOWD := Lib.hid (fun q => own_below HOWN.out (bl_drewN (n := q) (Below.refl wr.heap.size wr)) (Nat.le_refl _))
            clear b20 hown hb hata hatx hx hF1 hF2 hq4 hra hxa
            rcases Bool.eq_false_or_eq_true (F1 != F2) with gp | gp
            · have HS := Lib.hid (ndSt_set f m.ins.length R i r hlt true (by rw [HSU.out, ← HND.out, gp]; simp))
              go_wp2_with fail
              go_quiet (fail)
              go_wp2
              have how := fun q => bo_set (HOWD.out q) i true
              rw [HS.out] at how
              go_roundw
              case rel => exact ⟨r + 1, by omega, by go_num, how _, bl_set (HB20.out _) (Nat.le_refl _) _⟩
              case measure => simp [intOf]; omega
            · have HS := Lib.hid (ndSt_same f m.ins.length R i r (by rw [HSU.out, ← HND.out, gp]; simp))
              go_wp2_with fail
              go_quiet (fail)
              go_wp2
              go_roundw
              case rel => exact ⟨r + 1, by omega, by go_num, by rw [HS.out]; exact HOWD.out _, HB20.out _⟩
              case measure => simp [intOf]; omega
          · have hrI : ¬ (r : Int) < R := by omega
            have HRE : Hid (r = R) := Lib.hid (by omega)
            rw [HRE.out, ndSt_end] at hown
            have HOWN := Lib.hid hown
            have hra : all.length = R := HAL.out
            clear hown
            go_wp2
            go_roundw
            case rel => exact ⟨i + 1, by omega, by go_num, HOWN.out, hb⟩
            case measure => simp [intOf]; omega
      · have hin : Hid (i = m.ins.length) := Lib.hid (by omega)
        rw [hin.out, ← HRES.out] at hown
        have HOWN := Lib.hid (own_mono (base := w.heap.size) hown (by have h1 := HB2.out.size; simp only [World.size_alloc] at h1; omega))
        clear hown
        go_wp2
        go_ret2
        exact ⟨_, rfl, HOWN.out, bl_trans HBA.out (bl_trans HB2.out hb)⟩
  · have HC : Hid (mCode m = 1) := Lib.hid (by unfold mCode; rw [if_neg (by simp [g1])])
    have HL : Hid (nvList m = []) := Lib.hid (by unfold nvList; rw [if_neg (by simp [g1])])
    rw [HC.out, HL.out]
    rw [g1] at HOK
    clear g1 HC HL
    go_enter Tryz.func41, Tryz.ntmps41
    go_wp2_with fail
    refine HOK.out.mono ?_
    rintro e w1 ⟨rfl, hb1⟩
    have hb01 := bl_trans HBA.out hb1
    have hown := World.ownsRow_made (e := 4) (size := 1) w1 #[] 0 (Nat.le_refl _) (by simp [maxLen]) rfl
    have hown2 := own_mono (base := w.heap.size) hown hb01.size
    go_wp2
    go_ret2
    exact ⟨_, rfl, hown2, bl_alloc hb01⟩
end Go.Proofs.YtdhjhnbmecbaaaaGreat
/- Contracts: MachineNeeds (the program). -/
namespace Go.Proofs.YtdhjhnbmecbaaaaGreat
open Go.RowKit
set_option linter.unusedVariables false
set_option linter.unusedSimpArgs false
set_option maxHeartbeats 400000
set_option maxRecDepth 100000
theorem eg_nd1 (args : Array Value) (w : World) : (callFunc 132 args).run Tryz.prog w = .ok (.enter 132 args) w := by kernel_rfl
theorem needs1_any (t r i : Nat) (b7 b6 : Nat) (w : World) (ht : t < 18446744073709551616) (hr : r < 64) (hi : i < 6) (h7 : w.cell? ⟨b7, 0, none⟩ = some (.int .i64 r)) (h6 : w.cell? ⟨b6, 0, none⟩ = some (.int .i64 i)) :
    Calls Tryz.prog 132 #[.int .u64 t, .pointer (some ⟨b7, 0, none⟩), .pointer (some ⟨b6, 0, none⟩)] w fun e w' => e = .returned (.bool (t.testBit r != t.testBit (r ^^^ 2 ^ i))) ∧ Below w.heap.size w w' := by
  obtain ⟨q, hq1, hq2, hq3, hq4, hq5⟩ := wrap_pow i (by omega)
  have hxl : r ^^^ 2 ^ i < 64 := xor_lt 6 r i hr hi
  have hxx := xor_i64 r i q hq4 hr (by omega)
  obtain ⟨x, hx⟩ : ∃ x, x = r ^^^ 2 ^ i := ⟨_, rfl⟩
  rw [← hx] at hxl hxx ⊢
  have hmin : min i 64 = i := Nat.min_eq_left (by omega)
  clear hx hq4
  go_enter Tryz.func132, Tryz.ntmps132
  go_wp2_with fail
  go_quiet ((go_at_call 126; exact quiet_same (bitU_any _ _ ht (by omega) _)))
  go_wp2
  go_ret
  exact ⟨rfl, (by repeat (first | with_reducible exact Below.refl _ _ | with_reducible assumption | with_reducible apply bl_drewN | with_reducible apply bl_drew | with_reducible apply bl_alloc | (with_reducible refine bl_set ?_ (by first | (simp; done) | (simp; omega)) _) | with_reducible refine bl_trans ?_ (by with_reducible assumption)))⟩
set_option maxHeartbeats 1600000 in
theorem needs_any (f : Nat → Nat) (n no : Nat) (a : Option Addr) (cap : Nat) (tabs : List Int) (w : World) (hn : n ≤ 6) (hno : no ≤ 8) (htb : tabs = (List.range no).map (fun i => ((tabTo f i (2 ^ n) : Nat) : Int))) (hf : ∀ r, f r < 2 ^ no) (hs : SlAt w.heap.size w a (flat U64_cells tabs)) :
    Calls Tryz.prog 90 #[.slice a tabs.length cap, .int .i64 n] w fun e w' => ∃ v, e = .returned v ∧ w'.ownsRow w.heap.size 4 1 v n (flat Bo_cells (ndSt f n (2 ^ n) n 0)) ∧ Below w.heap.size w w' := by
  have hR64 : 2 ^ n ≤ 64 := pow_mono2 (b := 6) hn
  have HXL : Hid (∀ r i, r < 2 ^ n → i < n → r ^^^ 2 ^ i < 2 ^ n) := Lib.hid (fun r i => xor_lt n r i)
  have HRO := Lib.hid (fun w1 => rows_any n (by omega) w1)
  have HNT : Hid (∀ r s, r < 2 ^ n → s < 2 ^ n → tabs.any (fun t => t.toNat.testBit r != t.toNat.testBit s) = (f r != f s)) := Lib.hid (fun r s hr hs => by rw [htb]; exact nd_tabs f no (2 ^ n) r s hr hs hf)
  have HTL : Hid (tabs.length ≤ 8) := Lib.hid (by rw [htb]; simpa using hno)
  have HTM : Hid (∀ p ∈ tabs, ∃ t : Nat, p = (t : Int) ∧ t < 18446744073709551616) := Lib.hid (by
    intro p hp
    rw [htb, List.mem_map] at hp
    obtain ⟨i, -, rfl⟩ := hp
    refine ⟨_, rfl, ?_⟩
    have h1 := tabTo_lt f i (2 ^ n)
    have h2 := pow_mono2 (a := 2 ^ n) (b := 64) hR64
    omega)
  have htl := HTL.out
  obtain ⟨R, hRR⟩ : ∃ R, R = 2 ^ n := ⟨_, rfl⟩
  rw [← hRR] at hR64 HXL HRO HNT ⊢
  obtain ⟨res, hres⟩ : ∃ res, res = ndSt f n R n 0 := ⟨_, rfl⟩
  rw [← hres]
  have HRES := Lib.hid hres
  clear hRR hres htb hf
  obtain ⟨i0, hi0, hiz0, hiz1, hiz2⟩ := info_parts Tryz.infoBoolN
  go_enter Tryz.func90, Tryz.ntmps90
  go_wp2_with (refine wpList_make_full _ rfl (.tmp 8) (.tmp 8) 63 rfl w.heap.size 4 i0 _ 1 Tryz.underlying63 hi0 hiz0 hiz1 _ _ _ _ n rfl rfl rfl rfl (by rw [hiz2]; omega) (by unfold maxLen; omega) (Nat.le_refl _) ?_; intro w3 hmade hgrow)
  rw [made_rep _ rfl, ← flatBo_false, ← ndSt_zero f n R] at hmade
  have hb3 : Below w.heap.size w w3 := bl_grown (Below.refl _ _) hgrow (by simp)
  have HMD := Lib.hid (And.intro hmade hb3)
  have hz3 := (hmade.lt _ rfl).2
  clear hmade hb3 hgrow
  go_wp2
  go_loopw [12] (fun ix wr => ∃ i : Nat, i ≤ n ∧ ix = .int .i64 i ∧ wr.ownsRow w.heap.size 4 1 (.slice (some ⟨w.heap.size, 0, none⟩) n n) n (flat Bo_cells (ndSt f n R i 0)) ∧ Below w.heap.size w wr) (fun ix _ => n - (intOf ix).toNat)
  case atStart => exact ⟨0, by omega, rfl, HMD.out.1, HMD.out.2⟩
  case round =>
    obtain ⟨i, hi, rfl, hown, hb⟩ := hrel
    by_cases hlt : i < n
    · have hiI : (i : Int) < n := by omega
      have hzw := (hown.lt _ rfl).2
      have ha : Below wr.heap.size wr (wr.alloc (.cells #[.int .i64 (i : Int)] 3)) := bl_alloc (Below.refl _ _)
      have HOWN := Lib.hid (own_below hown ha (Nat.le_refl _))
      have HB := Lib.hid (bl_trans hb ha)
      have k6 : (wr.alloc (.cells #[.int .i64 (i : Int)] 3)).cell? ⟨wr.heap.size, 0, none⟩ = some (.int .i64 (i : Int)) := by simp [go_sem]
      have HK6 := Lib.hid k6
      obtain ⟨b6, hb6⟩ : ∃ b6, b6 = wr.heap.size := ⟨_, rfl⟩
      rw [← hb6] at HK6
      have HB6 : Hid (b6 < (wr.alloc (.cells #[.int .i64 (i : Int)] 3)).heap.size) := Lib.hid (by rw [hb6]; simp)
      have hb6w : w.heap.size < b6 := by rw [hb6]; exact hzw
      have HBE := Lib.hid hb6
      clear hown hb ha k6 hb6
      obtain ⟨W1, hW1⟩ : ∃ W1, W1 = wr := ⟨_, rfl⟩
      subst hW1
      go_wp2_with (go_at_call 85; refine (HRO.out _).mono ?_; rintro e w' ⟨rfl, rfl⟩)
      rw [← HBE.out]
      go_loopw [17] (fun rx wi => ∃ r : Nat, r ≤ R ∧ rx = .int .i64 r ∧ wi.ownsRow w.heap.size 4 1 (.slice (some ⟨w.heap.size, 0, none⟩) n n) n (flat Bo_cells (ndSt f n R i r)) ∧ Below w.heap.size w wi ∧ wi.cell? ⟨b6, 0, none⟩ = some (.int .i64 (i : Int)) ∧ b6 < wi.heap.size) (fun rx _ => R - (intOf rx).toNat)
      case atStart => exact ⟨0, by omega, rfl, HOWN.out, HB.out, HK6.out, HB6.out⟩
      case round =>
        obtain ⟨r, hr, rfl, hown, hb, c6, hb6l⟩ := hrel
        by_cases hltr : r < R
        · have hrI : (r : Int) < R := by omega
          obtain ⟨k0, k1⟩ := bo_cell hown i (by rw [ndSt_len]; exact hlt)
          rw [ndSt_get f n R i r i hlt, if_neg (Nat.lt_irrefl _), if_pos rfl] at k0
          have ha : Below wr.heap.size wr (wr.alloc (.cells #[.int .i64 (r : Int)] 2)) := bl_alloc (Below.refl _ _)
          have HOWN := Lib.hid (own_below hown ha (Nat.le_refl _))
          have HB := Lib.hid (bl_trans hb ha)
          have hzr := (hown.lt _ rfl).2
          have e6 : (wr.alloc (.cells #[.int .i64 (r : Int)] 2)).cell? ⟨b6, 0, none⟩ = some (.int .i64 (i : Int)) := by rw [cell_alloc _ _ _ _ hb6l]; exact c6
          have e0 : (wr.alloc (.cells #[.int .i64 (r : Int)] 2)).cell? ⟨w.heap.size, i, none⟩ = some (.bool (ndTo f i r)) := by rw [cell_alloc _ _ _ _ hzr]; exact k0
          have e7 : (wr.alloc (.cells #[.int .i64 (r : Int)] 2)).cell? ⟨wr.heap.size, 0, none⟩ = some (.int .i64 (r : Int)) := by simp [go_sem]
          have hsz : (wr.alloc (.cells #[.int .i64 (r : Int)] 2)).heap.size = wr.heap.size + 1 := by simp
          obtain ⟨x, hx⟩ : ∃ x, x = r ^^^ 2 ^ i := ⟨_, rfl⟩
          have HSU : Hid (ndTo f i (r + 1) = (ndTo f i r || (f r != f x))) := Lib.hid (by rw [ndTo_succ, hx])
          have hxR : x < R := by rw [hx]; exact HXL.out r i hltr hlt
          have HANY := Lib.hid (HNT.out r x hltr hxR)
          obtain ⟨b7, hb7⟩ : ∃ b7, b7 = wr.heap.size := ⟨_, rfl⟩
          rw [← hb7] at e7 hsz
          have h67 : b6 < b7 := by rw [hb7]; exact hb6l
          have HB7 := Lib.hid hb7
          clear hown hb c6 k0 k1 ha hb7
          go_wp2_with fail
          rw [← HB7.out]
          obtain ⟨w7, hw7⟩ : ∃ w7, w7 = wr.alloc (.cells #[.int .i64 (r : Int)] 2) := ⟨_, rfl⟩
          rw [← hw7] at e6 e0 e7 hsz HOWN HB ⊢
          have HCF := Lib.hid (fun w1 (hb1 : Below w7.heap.size w7 w1) (e1 : w1.cell? ⟨b6, 0, none⟩ = some (.int .i64 (i : Int))) => containsFuncU64_mem (B := w1.heap.size) 132 #[.pointer (some ⟨b7, 0, none⟩), .pointer (some ⟨b6, 0, none⟩)] a cap tabs w1 ((hs.below (bl_trans HB.out hb1) (Nat.le_refl _)).mono (bl_trans HB.out hb1).size) (Nat.le_refl _) (by omega) eg_nd1 (fun t => t.toNat.testBit r != t.toNat.testBit x) (fun p w2 hp hb2 => by
            obtain ⟨t, rfl, ht⟩ := HTM.out p hp
            have h8 := needs1_any t r i b7 b6 w2 ht (by omega) (by omega) (by rw [hb2.cell (p := ⟨b7, 0, none⟩) (show b7 < w1.heap.size by have := hb1.size; omega), hb1.cell (p := ⟨b7, 0, none⟩) (show b7 < w7.heap.size by omega)]; exact e7) (by rw [hb2.cell (p := ⟨b6, 0, none⟩) (show b6 < w1.heap.size by have := hb1.size; omega)]; exact e1)
            rw [← hx] at h8
            exact h8))
          rw [HANY.out] at HCF
          obtain ⟨o, ho⟩ : ∃ o, o = ndTo f i r := ⟨_, rfl⟩
          rw [← ho] at e0 HSU
          obtain ⟨cc, hcc⟩ : ∃ cc, cc = (f r != f x) := ⟨_, rfl⟩
          rw [← hcc] at HCF HSU
          have hz7 : w.heap.size < w7.heap.size := by omega
          clear hw7 hx ho hcc HANY HNT
          cases o with
          | true =>
            have HS := Lib.hid (ndSt_set f n R i r hlt true (by rw [HSU.out]; rfl))
            refine wp_region_T 0 12 (fun w' => w'.cell? ⟨b6, 0, none⟩ = some (.int .i64 (i : Int)) ∧ w'.cell? ⟨w.heap.size, i, none⟩ = some (.bool true)) (by kernel_rfl) ⟨e6, e0⟩ (fun hHeld => ?_)
            obtain ⟨Y0, hY0⟩ : ∃ Y, Y = w7.drew := ⟨_, rfl⟩
            have b20 : Below w7.heap.size w7 w7.drew := bl_drew (Below.refl _ _)
            have HOWY := Lib.hid (own_below HOWN.out b20 (Nat.le_refl _))
            have HBY := Lib.hid (bl_trans HB.out b20)
            have hzY : w7.heap.size ≤ w7.drew.heap.size := b20.size
            rw [← hY0] at HOWY HBY hzY hHeld ⊢
            clear hY0 b20 e6 e0 e7 HOWN HB HCF
            (refine' wpAnyT_take 12 0 (oi := ?oi1) (v := ?v1) ?hi1 (by kernel_rfl) (by kernel_rfl) (by kernel_rfl) (by kernel_rfl) (by kernel_rfl) (by kernel_rfl) ?hQ1 ?hy1 (by assumption) ?rest1; (case hi1 => simp only [List.getElem?_toArray, List.getElem?_cons_zero, List.getElem?_cons_succ]; rfl); (case hQ1 => exact fun _ _ _ h => h); (case hy1 => refine Or.inl ⟨by rfl, ?_⟩; intro wz hSw; (try dsimp only at hSw); go_simp; try with_reducible rfl); try simp only [Act.put, List.setIfInBounds_toArray, List.set_cons_zero, List.set_cons_succ])
            (refine' wpAnyT_take 12 1 (oi := ?oi2) (v := ?v2) ?hi2 (by kernel_rfl) (by kernel_rfl) (by kernel_rfl) (by kernel_rfl) (by kernel_rfl) (by kernel_rfl) ?hQ2 ?hy2 (by assumption) ?rest2; (case hi2 => simp only [List.getElem?_toArray, List.getElem?_cons_zero, List.getElem?_cons_succ]; rfl); (case hQ2 => exact fun _ _ _ h => h); (case hy2 => refine Or.inl ⟨by rfl, ?_⟩; intro wz hSw; (try dsimp only at hSw); go_simp; try with_reducible rfl); try simp only [Act.put, List.setIfInBounds_toArray, List.set_cons_zero, List.set_cons_succ])
            (refine' wpAnyT_take 12 2 (oi := ?oi3) (v := ?v3) ?hi3 (by kernel_rfl) (by kernel_rfl) (by kernel_rfl) (by kernel_rfl) (by kernel_rfl) (by kernel_rfl) ?hQ3 ?hy3 (by assumption) ?rest3; (case hi3 => simp only [List.getElem?_toArray, List.getElem?_cons_zero, List.getElem?_cons_succ]; rfl); (case hQ3 => exact fun _ _ _ h => h); (case hy3 => refine Or.inl ⟨by rfl, ?_⟩; intro wz hSw; (try dsimp only at hSw); go_simp; try with_reducible rfl); try simp only [Act.put, List.setIfInBounds_toArray, List.set_cons_zero, List.set_cons_succ])
            (refine' wpAnyT_take 12 3 (oi := ?oi4) (v := ?v4) ?hi4 (by kernel_rfl) (by kernel_rfl) (by kernel_rfl) (by kernel_rfl) (by kernel_rfl) (by kernel_rfl) ?hQ4 ?hy4 (by assumption) ?rest4; (case hi4 => simp only [List.getElem?_toArray, List.getElem?_cons_zero, List.getElem?_cons_succ]; rfl); (case hQ4 => exact fun _ _ _ h => h); (case hy4 => refine Or.inl ⟨by rfl, ?_⟩; intro wz hSw; (try dsimp only at hSw); go_simp; try with_reducible rfl); try simp only [Act.put, List.setIfInBounds_toArray, List.set_cons_zero, List.set_cons_succ])
            (refine' wpAnyT_take 12 4 (oi := ?oi5) (v := ?v5) ?hi5 (by kernel_rfl) (by kernel_rfl) (by kernel_rfl) (by kernel_rfl) (by kernel_rfl) (by kernel_rfl) ?hQ5 ?hy5 (by assumption) ?rest5; (case hi5 => simp only [List.getElem?_toArray, List.getElem?_cons_zero, List.getElem?_cons_succ]; rfl); (case hQ5 => exact fun _ _ _ h => h); (case hy5 => refine Or.inl ⟨by rfl, ?_⟩; intro wz hSw; (try dsimp only at hSw); go_simp; try with_reducible rfl); try simp only [Act.put, List.setIfInBounds_toArray, List.set_cons_zero, List.set_cons_succ])
            (refine' wpAnyT_take 12 5 (oi := ?oi6) (v := ?v6) ?hi6 (by kernel_rfl) (by kernel_rfl) (by kernel_rfl) (by kernel_rfl) (by kernel_rfl) (by kernel_rfl) ?hQ6 ?hy6 (by assumption) ?rest6; (case hi6 => simp only [List.getElem?_toArray, List.getElem?_cons_zero, List.getElem?_cons_succ]; rfl); (case hQ6 => exact fun _ _ _ h => h); (case hy6 => refine Or.inl ⟨by rfl, ?_⟩; intro wz hSw; (try dsimp only at hSw); go_simp; try with_reducible rfl); try simp only [Act.put, List.setIfInBounds_toArray, List.set_cons_zero, List.set_cons_succ])
            (refine' wpAnyT_take 12 6 (oi := ?oi7) (v := ?v7) ?hi7 (by kernel_rfl) (by kernel_rfl) (by kernel_rfl) (by kernel_rfl) (by kernel_rfl) (by kernel_rfl) ?hQ7 ?hy7 (by assumption) ?rest7; (case hi7 => simp only [List.getElem?_toArray, List.getElem?_cons_zero, List.getElem?_cons_succ]; rfl); (case hQ7 => exact fun _ _ _ h => h); (case hy7 => refine Or.inl ⟨by rfl, ?_⟩; intro wz hSw; (try dsimp only at hSw); go_simp; try with_reducible rfl); try simp only [Act.put, List.setIfInBounds_toArray, List.set_cons_zero, List.set_cons_succ])
            (refine' wpAnyT_take 12 7 (oi := ?oi21) (v := ?v21) ?hi21 (by kernel_rfl) (by kernel_rfl) (by kernel_rfl) (by kernel_rfl) (by kernel_rfl) (by kernel_rfl) ?hQ21 ?hy21 (by assumption) ?rest21; (case hi21 => simp only [List.getElem?_toArray, List.getElem?_cons_zero, List.getElem?_cons_succ]; rfl); (case hQ21 => exact fun _ _ _ h => h); (case hy21 => refine Or.inr ⟨by rfl, ?_⟩; with_reducible rfl); try simp only [Act.put, List.setIfInBounds_toArray, List.set_cons_zero, List.set_cons_succ])
            (refine' wpAnyT_take 12 8 (oi := ?oi22) (v := ?v22) ?hi22 (by kernel_rfl) (by kernel_rfl) (by kernel_rfl) (by kernel_rfl) (by kernel_rfl) (by kernel_rfl) ?hQ22 ?hy22 (by assumption) ?rest22; (case hi22 => simp only [List.getElem?_toArray, List.getElem?_cons_zero, List.getElem?_cons_succ]; rfl); (case hQ22 => exact fun _ _ _ h => h); (case hy22 => refine Or.inr ⟨by rfl, ?_⟩; with_reducible rfl); try simp only [Act.put, List.setIfInBounds_toArray, List.set_cons_zero, List.set_cons_succ])
            (refine' wpAnyT_take 12 9 (oi := ?oi23) (v := ?v23) ?hi23 (by kernel_rfl) (by kernel_rfl) (by kernel_rfl) (by kernel_rfl) (by kernel_rfl) (by kernel_rfl) ?hQ23 ?hy23 (by assumption) ?rest23; (case hi23 => simp only [List.getElem?_toArray, List.getElem?_cons_zero, List.getElem?_cons_succ]; rfl); (case hQ23 => exact fun _ _ _ h => h); (case hy23 => refine Or.inr ⟨by rfl, ?_⟩; with_reducible rfl); try simp only [Act.put, List.setIfInBounds_toArray, List.set_cons_zero, List.set_cons_succ])
            (refine' wpAnyT_take 12 10 (oi := ?oi8) (v := ?v8) ?hi8 (by kernel_rfl) (by kernel_rfl) (by kernel_rfl) (by kernel_rfl) (by kernel_rfl) (by kernel_rfl) ?hQ8 ?hy8 (by assumption) ?rest8; (case hi8 => simp only [List.getElem?_toArray, List.getElem?_cons_zero, List.getElem?_cons_succ]; rfl); (case hQ8 => exact fun _ _ _ h => h); (case hy8 => refine Or.inl ⟨by rfl, ?_⟩; intro wz hSw; (try dsimp only at hSw); go_simp; try with_reducible rfl); try simp only [Act.put, List.setIfInBounds_toArray, List.set_cons_zero, List.set_cons_succ])
            (refine' wpAnyT_take 12 11 (oi := ?oi9) (v := ?v9) ?hi9 (by kernel_rfl) (by kernel_rfl) (by kernel_rfl) (by kernel_rfl) (by kernel_rfl) (by kernel_rfl) ?hQ9 ?hy9 (by assumption) ?rest9; (case hi9 => simp only [List.getElem?_toArray, List.getElem?_cons_zero, List.getElem?_cons_succ]; rfl); (case hQ9 => exact fun _ _ _ h => h); (case hy9 => refine Or.inl ⟨by rfl, ?_⟩; intro wz hSw; (try dsimp only at hSw); go_simp; try with_reducible rfl); try simp only [Act.put, List.setIfInBounds_toArray, List.set_cons_zero, List.set_cons_succ])
            have e3f : Y0.frozen? ⟨w.heap.size, i, none⟩ = false := (bo_cell HOWY.out i (by rw [ndSt_len]; exact hlt)).2
            obtain ⟨f6, f0⟩ := hHeld
            refine wpAnyT_ready (rs := [12]) (by kernel_rfl) (by simp) ?_
            (refine' AllReadyT.cons (o := ?o24) ?ho24 (fun K hK => ?step24) AllReadyT.nil; (case ho24 => simp only [List.getElem?_toArray, List.getElem?_cons_zero, List.getElem?_cons_succ]; rfl))
            go_simp
            refine hK.out _ _ (fun _ h => absurd h (by decide)) (fun _ => ?_)
            clear hK K
            try simp only [Act.put, List.setIfInBounds_toArray, List.set_cons_zero, List.set_cons_succ]
            refine wpAnyT_done (by kernel_rfl) ?_ _
            have how4 := bo_set HOWY.out i true
            rw [HS.out] at how4
            have g6 : (Y0.setCell ⟨w.heap.size, i, none⟩ (.bool true)).cell? ⟨b6, 0, none⟩ = some (.int .i64 (i : Int)) := (grown_set Y0 _ i (.bool true)).cell f6 (by simp; omega)
            have hb4 : Below w.heap.size w (Y0.setCell ⟨w.heap.size, i, none⟩ (.bool true)) := bl_set HBY.out (Nat.le_refl _) _
            have hl4 : b6 < (Y0.setCell ⟨w.heap.size, i, none⟩ (.bool true)).heap.size := by simp; omega
            clear e3f f6 f0
            go_wp2
            go_roundw
            case rel => exact ⟨r + 1, by omega, by go_num, how4, hb4, g6, hl4⟩
            case measure => simp [intOf]; omega
          | false =>
            have HS := Lib.hid (ndSt_set f n R i r hlt cc (by rw [HSU.out]; rfl))
            refine wp_region_T 0 12 (fun w' => w'.cell? ⟨b6, 0, none⟩ = some (.int .i64 (i : Int)) ∧ w'.cell? ⟨w.heap.size, i, none⟩ = some (.bool false)) (by kernel_rfl) ⟨e6, e0⟩ (fun hHeld => ?_)
            obtain ⟨Y0, hY0⟩ : ∃ Y, Y = w7.drew := ⟨_, rfl⟩
            have b20 : Below w7.heap.size w7 w7.drew := bl_drew (Below.refl _ _)
            have HOWY := Lib.hid (own_below HOWN.out b20 (Nat.le_refl _))
            have HBY := Lib.hid (bl_trans HB.out b20)
            have hzY : w7.heap.size ≤ w7.drew.heap.size := b20.size
            have HB7Y := Lib.hid b20
            rw [← hY0] at HOWY HBY hzY hHeld HB7Y ⊢
            clear hY0 b20 e6 e0 e7 HOWN HB
            (refine' wpAnyT_take 12 0 (oi := ?oi10) (v := ?v10) ?hi10 (by kernel_rfl) (by kernel_rfl) (by kernel_rfl) (by kernel_rfl) (by kernel_rfl) (by kernel_rfl) ?hQ10 ?hy10 (by assumption) ?rest10; (case hi10 => simp only [List.getElem?_toArray, List.getElem?_cons_zero, List.getElem?_cons_succ]; rfl); (case hQ10 => exact fun _ _ _ h => h); (case hy10 => refine Or.inl ⟨by rfl, ?_⟩; intro wz hSw; (try dsimp only at hSw); go_simp; try with_reducible rfl); try simp only [Act.put, List.setIfInBounds_toArray, List.set_cons_zero, List.set_cons_succ])
            (refine' wpAnyT_take 12 1 (oi := ?oi11) (v := ?v11) ?hi11 (by kernel_rfl) (by kernel_rfl) (by kernel_rfl) (by kernel_rfl) (by kernel_rfl) (by kernel_rfl) ?hQ11 ?hy11 (by assumption) ?rest11; (case hi11 => simp only [List.getElem?_toArray, List.getElem?_cons_zero, List.getElem?_cons_succ]; rfl); (case hQ11 => exact fun _ _ _ h => h); (case hy11 => refine Or.inl ⟨by rfl, ?_⟩; intro wz hSw; (try dsimp only at hSw); go_simp; try with_reducible rfl); try simp only [Act.put, List.setIfInBounds_toArray, List.set_cons_zero, List.set_cons_succ])
            (refine' wpAnyT_take 12 2 (oi := ?oi12) (v := ?v12) ?hi12 (by kernel_rfl) (by kernel_rfl) (by kernel_rfl) (by kernel_rfl) (by kernel_rfl) (by kernel_rfl) ?hQ12 ?hy12 (by assumption) ?rest12; (case hi12 => simp only [List.getElem?_toArray, List.getElem?_cons_zero, List.getElem?_cons_succ]; rfl); (case hQ12 => exact fun _ _ _ h => h); (case hy12 => refine Or.inl ⟨by rfl, ?_⟩; intro wz hSw; (try dsimp only at hSw); go_simp; try with_reducible rfl); try simp only [Act.put, List.setIfInBounds_toArray, List.set_cons_zero, List.set_cons_succ])
            (refine' wpAnyT_take 12 3 (oi := ?oi13) (v := ?v13) ?hi13 (by kernel_rfl) (by kernel_rfl) (by kernel_rfl) (by kernel_rfl) (by kernel_rfl) (by kernel_rfl) ?hQ13 ?hy13 (by assumption) ?rest13; (case hi13 => simp only [List.getElem?_toArray, List.getElem?_cons_zero, List.getElem?_cons_succ]; rfl); (case hQ13 => exact fun _ _ _ h => h); (case hy13 => refine Or.inl ⟨by rfl, ?_⟩; intro wz hSw; (try dsimp only at hSw); go_simp; try with_reducible rfl); try simp only [Act.put, List.setIfInBounds_toArray, List.set_cons_zero, List.set_cons_succ])
            (refine' wpAnyT_take 12 4 (oi := ?oi14) (v := ?v14) ?hi14 (by kernel_rfl) (by kernel_rfl) (by kernel_rfl) (by kernel_rfl) (by kernel_rfl) (by kernel_rfl) ?hQ14 ?hy14 (by assumption) ?rest14; (case hi14 => simp only [List.getElem?_toArray, List.getElem?_cons_zero, List.getElem?_cons_succ]; rfl); (case hQ14 => exact fun _ _ _ h => h); (case hy14 => refine Or.inl ⟨by rfl, ?_⟩; intro wz hSw; (try dsimp only at hSw); go_simp; try with_reducible rfl); try simp only [Act.put, List.setIfInBounds_toArray, List.set_cons_zero, List.set_cons_succ])
            (refine' wpAnyT_take 12 5 (oi := ?oi15) (v := ?v15) ?hi15 (by kernel_rfl) (by kernel_rfl) (by kernel_rfl) (by kernel_rfl) (by kernel_rfl) (by kernel_rfl) ?hQ15 ?hy15 (by assumption) ?rest15; (case hi15 => simp only [List.getElem?_toArray, List.getElem?_cons_zero, List.getElem?_cons_succ]; rfl); (case hQ15 => exact fun _ _ _ h => h); (case hy15 => refine Or.inl ⟨by rfl, ?_⟩; intro wz hSw; (try dsimp only at hSw); go_simp; try with_reducible rfl); try simp only [Act.put, List.setIfInBounds_toArray, List.set_cons_zero, List.set_cons_succ])
            (refine' wpAnyT_take 12 6 (oi := ?oi16) (v := ?v16) ?hi16 (by kernel_rfl) (by kernel_rfl) (by kernel_rfl) (by kernel_rfl) (by kernel_rfl) (by kernel_rfl) ?hQ16 ?hy16 (by assumption) ?rest16; (case hi16 => simp only [List.getElem?_toArray, List.getElem?_cons_zero, List.getElem?_cons_succ]; rfl); (case hQ16 => exact fun _ _ _ h => h); (case hy16 => refine Or.inl ⟨by rfl, ?_⟩; intro wz hSw; (try dsimp only at hSw); go_simp; try with_reducible rfl); try simp only [Act.put, List.setIfInBounds_toArray, List.set_cons_zero, List.set_cons_succ])
            (refine' wpAnyT_take 12 7 (oi := ?oi17) (v := ?v17) ?hi17 (by kernel_rfl) (by kernel_rfl) (by kernel_rfl) (by kernel_rfl) (by kernel_rfl) (by kernel_rfl) ?hQ17 ?hy17 (by assumption) ?rest17; (case hi17 => simp only [List.getElem?_toArray, List.getElem?_cons_zero, List.getElem?_cons_succ]; rfl); (case hQ17 => exact fun _ _ _ h => h); (case hy17 => refine Or.inl ⟨by rfl, ?_⟩; intro wz hSw; (try dsimp only at hSw); go_simp; try with_reducible rfl); try simp only [Act.put, List.setIfInBounds_toArray, List.set_cons_zero, List.set_cons_succ])
            (refine' wpAnyT_take 12 8 (oi := ?oi18) (v := ?v18) ?hi18 (by kernel_rfl) (by kernel_rfl) (by kernel_rfl) (by kernel_rfl) (by kernel_rfl) (by kernel_rfl) ?hQ18 ?hy18 (by assumption) ?rest18; (case hi18 => simp only [List.getElem?_toArray, List.getElem?_cons_zero, List.getElem?_cons_succ]; rfl); (case hQ18 => exact fun _ _ _ h => h); (case hy18 => refine Or.inl ⟨by rfl, ?_⟩; intro wz hSw; (try dsimp only at hSw); go_simp; try with_reducible rfl); try simp only [Act.put, List.setIfInBounds_toArray, List.set_cons_zero, List.set_cons_succ])
            obtain ⟨f6, f0⟩ := hHeld
            have HCC := Lib.hid (HCF.out Y0 HB7Y.out f6)
            refine wpAnyT_ready (rs := [9]) (by kernel_rfl) (by simp) ?_
            (refine' AllReadyT.cons (o := ?o25) ?ho25 (fun K hK => ?step25) AllReadyT.nil; (case ho25 => simp only [List.getElem?_toArray, List.getElem?_cons_zero, List.getElem?_cons_succ]; rfl))
            go_simp
            refine HCC.out.mono ?_
            rintro e Y1 ⟨rfl, ba⟩
            have S1 : Y1.cell? ⟨b6, 0, none⟩ = some (.int .i64 (i : Int)) ∧ Y1.cell? ⟨w.heap.size, i, none⟩ = some (.bool false) := ⟨by rw [ba.cell (p := ⟨b6, 0, none⟩) (show b6 < Y0.heap.size by omega)]; exact f6, by rw [ba.cell (p := ⟨w.heap.size, i, none⟩) (show w.heap.size < Y0.heap.size by omega)]; exact f0⟩
            refine hK.out _ _ (fun _ _ => S1) (fun hHd => ?_)
            have hHeld := hHd (by decide) (by decide)
            have HOW1 := Lib.hid (own_below HOWY.out ba (Nat.le_refl _))
            have HB1 := Lib.hid (bl_trans HBY.out ba)
            have hz1 := ba.size
            clear hK K hHd ba f6 f0 S1 HCC HCF HOWY HBY HB7Y
            try simp only [Act.put, List.setIfInBounds_toArray, List.set_cons_zero, List.set_cons_succ]
            (refine' wpAnyT_take 12 10 (oi := ?oi19) (v := ?v19) ?hi19 (by kernel_rfl) (by kernel_rfl) (by kernel_rfl) (by kernel_rfl) (by kernel_rfl) (by kernel_rfl) ?hQ19 ?hy19 (by assumption) ?rest19; (case hi19 => simp only [List.getElem?_toArray, List.getElem?_cons_zero, List.getElem?_cons_succ]; rfl); (case hQ19 => exact fun _ _ _ h => h); (case hy19 => refine Or.inl ⟨by rfl, ?_⟩; intro wz hSw; (try dsimp only at hSw); go_simp; try with_reducible rfl); try simp only [Act.put, List.setIfInBounds_toArray, List.set_cons_zero, List.set_cons_succ])
            (refine' wpAnyT_take 12 11 (oi := ?oi20) (v := ?v20) ?hi20 (by kernel_rfl) (by kernel_rfl) (by kernel_rfl) (by kernel_rfl) (by kernel_rfl) (by kernel_rfl) ?hQ20 ?hy20 (by assumption) ?rest20; (case hi20 => simp only [List.getElem?_toArray, List.getElem?_cons_zero, List.getElem?_cons_succ]; rfl); (case hQ20 => exact fun _ _ _ h => h); (case hy20 => refine Or.inl ⟨by rfl, ?_⟩; intro wz hSw; (try dsimp only at hSw); go_simp; try with_reducible rfl); try simp only [Act.put, List.setIfInBounds_toArray, List.set_cons_zero, List.set_cons_succ])
            have e3f : Y1.frozen? ⟨w.heap.size, i, none⟩ = false := (bo_cell HOW1.out i (by rw [ndSt_len]; exact hlt)).2
            obtain ⟨f6, f0⟩ := hHeld
            refine wpAnyT_ready (rs := [12]) (by kernel_rfl) (by simp) ?_
            (refine' AllReadyT.cons (o := ?o26) ?ho26 (fun K hK => ?step26) AllReadyT.nil; (case ho26 => simp only [List.getElem?_toArray, List.getElem?_cons_zero, List.getElem?_cons_succ]; rfl))
            go_simp
            refine hK.out _ _ (fun _ h => absurd h (by decide)) (fun _ => ?_)
            clear hK K
            try simp only [Act.put, List.setIfInBounds_toArray, List.set_cons_zero, List.set_cons_succ]
            refine wpAnyT_done (by kernel_rfl) ?_ _
            have how4 := bo_set HOW1.out i cc
            rw [HS.out] at how4
            have g6 : (Y1.setCell ⟨w.heap.size, i, none⟩ (.bool cc)).cell? ⟨b6, 0, none⟩ = some (.int .i64 (i : Int)) := (grown_set Y1 _ i (.bool cc)).cell f6 (by simp; omega)
            have hb4 : Below w.heap.size w (Y1.setCell ⟨w.heap.size, i, none⟩ (.bool cc)) := bl_set HB1.out (Nat.le_refl _) _
            have hl4 : b6 < (Y1.setCell ⟨w.heap.size, i, none⟩ (.bool cc)).heap.size := by simp; omega
            clear e3f f6 f0
            go_wp2
            go_roundw
            case rel => exact ⟨r + 1, by omega, by go_num, how4, hb4, g6, hl4⟩
            case measure => simp [intOf]; omega
        · have hrI : ¬ (r : Int) < R := by omega
          have HRE : Hid (r = R) := Lib.hid (by omega)
          rw [HRE.out, ndSt_end] at hown
          have HOWN := Lib.hid hown
          clear hown
          go_wp2
          go_roundw
          case rel => exact ⟨i + 1, by omega, by go_num, HOWN.out, hb⟩
          case measure => simp [intOf]; omega
    · have hin : Hid (i = n) := Lib.hid (by omega)
      rw [hin.out, ← HRES.out] at hown
      have HOWN := Lib.hid hown
      clear hown
      go_wp2
      go_ret
      exact ⟨_, rfl, HOWN.out, hb⟩
theorem machineNeeds_any (m : Mc) (v : Value) (w : World) (h : MVc w v m) (hok : m.ok) (hn : m.bd.ps.length ≤ 10000000) (hn1 : m.ins.length ≤ 10000000) (hn2 : m.outs.length ≤ 10000000) :
    Calls Tryz.prog 42 #[v] w fun e w' => ∃ v, e = .returned (.tuple #[v, .int .i64 (mCode m)]) ∧ w'.ownsRow w.heap.size 4 1 v (nvList m).length (flat Bo_cells (nvList m)) ∧ Below w.heap.size w w' := by
  have HMT := Lib.hid (fun w1 (hb : Below w.heap.size w w1) => machineTables_any m v w1 (h.step hb) hok hn hn1 hn2)
  obtain ⟨sa, scap, ia, icap, oa, ocap, rfl, hcap, hps, hins, houts⟩ := h
  have HBA := Lib.hid (show Below w.heap.size w (w.alloc (.cells #[.int .i8 m.bd.wd, .int .i8 m.bd.hg, .slice sa m.bd.ps.length scap, .slice ia m.ins.length icap, .slice oa m.outs.length ocap] 40)) from bl_alloc (Below.refl _ _))
  have HXB := Lib.hid (BX5.new w (.int .i8 m.bd.wd) (.int .i8 m.bd.hg) (.slice sa m.bd.ps.length scap) (.slice ia m.ins.length icap) (.slice oa m.outs.length ocap) 40)
  rcases Bool.eq_false_or_eq_true (vMc m) with g1 | g1
  · obtain ⟨hvb, h60, hi1, hi6, ho1, ho8, -⟩ := vMc_parts m g1
    have HC : Hid (mCode m = 0) := Lib.hid (by unfold mCode; rw [if_pos g1])
    have HL : Hid (mtList m = mTabI m) := Lib.hid (by unfold mtList; rw [if_pos g1])
    have HLV : Hid (nvList m = ndSt (mF m) m.ins.length (mRows m) m.ins.length 0) := Lib.hid (by unfold nvList; rw [if_pos g1])
    have HLL : Hid ((ndSt (mF m) m.ins.length (mRows m) m.ins.length 0).length = m.ins.length) := Lib.hid (ndSt_len _ _ _ _ _)
    rw [HC.out, HLV.out, HLL.out]
    rw [HC.out, HL.out] at HMT
    have HND := Lib.hid (fun w1 a cap (hs : SlAt w1.heap.size w1 a (flat U64_cells (mTabI m))) => needs_any (mF m) m.ins.length m.outs.length a cap (mTabI m) w1 hi6 ho8 (by unfold mTabI mTabs; rw [List.map_map]; rfl) (mF_lt m) hs)
    have HRE : Hid (2 ^ m.ins.length = mRows m) := Lib.hid rfl
    rw [HRE.out] at HND
    obtain ⟨tabs, htabs⟩ : ∃ tabs, tabs = mTabI m := ⟨_, rfl⟩
    rw [← htabs] at HMT HND
    obtain ⟨res, hres⟩ : ∃ res, res = ndSt (mF m) m.ins.length (mRows m) m.ins.length 0 := ⟨_, rfl⟩
    rw [← hres] at HND ⊢
    clear g1 HC HL HLV HLL htabs hres HRE
    go_enter Tryz.func42, Tryz.ntmps42
    go_wp2_with fail
    refine (HMT.out _ HBA.out).mono ?_
    rintro e w1 ⟨v1, rfl, hown1, hb1⟩
    obtain ⟨a1, cap1, rfl, hsl1, -, -⟩ := own_at hown1
    have HB1 := Lib.hid (bl_trans HBA.out hb1)
    obtain ⟨X0, -, -, -, x3, -⟩ := HXB.out.step hb1
    have HNC := Lib.hid (HND.out w1 a1 cap1 hsl1)
    clear hown1 hsl1 hb1 HMT
    go_wp2_with fail
    refine HNC.out.mono ?_
    rintro e w3 ⟨v2, rfl, hown, hb3⟩
    have hown2 := own_mono (base := w.heap.size) hown HB1.out.size
    go_wp2
    go_ret2
    exact ⟨_, rfl, hown2, bl_trans HB1.out hb3⟩
  · have HC : Hid (mCode m = 1) := Lib.hid (by unfold mCode; rw [if_neg (by simp [g1])])
    have HL : Hid (nvList m = []) := Lib.hid (by unfold nvList; rw [if_neg (by simp [g1])])
    rw [HC.out, HL.out]
    rw [HC.out] at HMT
    clear g1 HC HL
    go_enter Tryz.func42, Tryz.ntmps42
    go_wp2_with fail
    refine (HMT.out _ HBA.out).mono ?_
    rintro e w1 ⟨v1, rfl, -, hb1⟩
    have hb01 := bl_trans HBA.out hb1
    go_wp2
    go_ret2
    exact ⟨_, rfl, World.ownsRow_nil _ _ _ _, hb01⟩
end Go.Proofs.YtdhjhnbmecbaaaaGreat
/- The walks of the laws FnExactFirstUnsteady, FnExactIsSteady, FnExactMachineNeeds. -/
namespace Go.Proofs.YtdhjhnbmecbaaaaGreat
open Go.RowKit
set_option linter.unusedVariables false
set_option linter.unusedSimpArgs false
set_option maxHeartbeats 400000
set_option maxRecDepth 100000
set_option maxRecDepth 100000 in
theorem lawFirstUnsteady_any (mc : Mc) (a a1 a2 : Option Addr) (cap cap1 cap2 : Nat) (bt : Int) (w : World) (h0 : PcsAt w.heap.size w a mc.bd.ps) (h1 : SlAt w.heap.size w a1 (flat Po.cells mc.ins)) (h2 : SlAt w.heap.size w a2 (flat Ce.cells mc.outs)) (hok : mc.ok)
    (l0 : mc.bd.ps.length ≤ 9223372036854775807) (l1 : mc.ins.length ≤ 9223372036854775807) (l2 : mc.outs.length ≤ 9223372036854775807) :
    Calls Tryz.prog 12 #[mcv mc.bd.wd mc.bd.hg (.slice a mc.bd.ps.length cap) (.slice a1 mc.ins.length cap1) (.slice a2 mc.outs.length cap2), .int .i64 bt] w fun e w' => e = .returned (.bool true) ∧ Below w.heap.size w w' := by
  by_cases hL : True
  · by_cases hn : (mc.bd.ps.length : Int) + mc.ins.length + mc.outs.length ≤ 1048576
    · obtain ⟨lf, Hs, hlf, hlf2⟩ : ∃ lf : Int, Hid (sz3 mc.bd.ps.length mc.ins.length mc.outs.length 1048576 = lf) ∧ 0 ≤ lf ∧ lf ≤ 1048576 := ⟨_, Lib.hid rfl, by unfold sz3; rw [if_pos hn]; omega, by unfold sz3; rw [if_pos hn]; omega⟩
      have M0 : MV w (mcv mc.bd.wd mc.bd.hg (.slice a mc.bd.ps.length cap) (.slice a1 mc.ins.length cap1) (.slice a2 mc.outs.length cap2)) mc := ⟨_, _, _, rfl, ⟨a, cap, rfl, h0⟩, ⟨a1, cap1, rfl, h1⟩, a2, cap2, rfl, h2⟩
      have X0 := BX5.new w (.int .i8 mc.bd.wd) (.int .i8 mc.bd.hg) (.slice a mc.bd.ps.length cap) (.slice a1 mc.ins.length cap1) (.slice a2 mc.outs.length cap2) 29
      have hln : (usLate mc bt).length ≤ 1048576 := by have := usLate_len mc bt; omega
      obtain ⟨rv0, hrv0⟩ : ∃ rv, rv = usLate mc bt := ⟨_, rfl⟩
      obtain ⟨rp, hrp⟩ : ∃ rp, rp = usRow mc bt := ⟨_, rfl⟩
      obtain ⟨rc, hrc⟩ : ∃ rc, rc = usCode mc bt := ⟨_, rfl⟩
      have CS := fun v w' (h : MV w' v mc) => specFirstUnsteady_any mc v bt w' h hok (by omega) (by omega) (by omega)
      have CI := fun v w' (h : MVc w' v mc) => firstUnsteady_any mc v bt w' h hok (by omega) (by omega) (by omega)
      simp only [← hrv0, ← hrp, ← hrc] at CS CI
      rw [← hrv0] at hln
      have CS := Lib.hid CS
      have CI := Lib.hid CI
      clear hrv0 hrp hrc h0 h1 h2
      go_enter Tryz.func12, Tryz.ntmps12
      go_wp2_with fail
      refine (szMachine_any mc.bd.wd mc.bd.hg a _ cap a1 _ cap1 a2 _ cap2 _ _ (by omega) (by omega) (by omega) (by omega) (by omega)).mono ?_
      rintro e u ⟨rfl, bu⟩
      rw [Hs.out]
      have bu0 : Below w.heap.size w u := bl_trans (bl_alloc (Below.refl _ _)) bu
      have A0 := (M0.step (bl_alloc (Below.refl _ _))).step bu
      have AX := X0.step bu
      go_wp2_with fail
      refine (toMachine_mv A0 (by omega) (by omega) (by omega)).mono ?_
      rintro e w1 ⟨sm, im, om, rfl, Om1, b1⟩
      have AM1 := A0.step b1
      have AX1 := AX.step b1
      have B1 := b1
      obtain ⟨asm, capsm, rfl, -⟩ := own_at Om1.1
      obtain ⟨aim, capim, rfl, -⟩ := own_at Om1.2.1
      obtain ⟨aom, capom, rfl, -⟩ := own_at Om1.2.2.1
      go_wp2_with fail
      refine (CS.out _ _ Om1.mv).mono ?_
      rintro e w2 ⟨vw, rfl, Ow2, b2⟩
      have AM2 := AM1.step b2
      have AX2 := AX1.step b2
      have Pwm := ownM_apart Om1 Ow2 (by first | exact Nat.le_refl _ | simp)
      have Om2 := Om1.below b2
      have B2 := bl_trans B1 b2
      obtain ⟨aw, capw, rfl, -⟩ := own_at Ow2
      go_wp2_with fail
      refine (toMachine_mv AM2 (by omega) (by omega) (by omega)).mono ?_
      rintro e w3 ⟨sx, ix, ox, rfl, Ox3, b3⟩
      have AM3 := AM2.step b3
      have AX3 := AX2.step b3
      have Pwx := ownM_apart' Ow2 Ox3 (by first | exact Nat.le_refl _ | simp)
      have Ow3 := own_below Ow2 b3 (Nat.le_refl _)
      have B3 := bl_trans B2 b3
      obtain ⟨asx, capsx, rfl, -⟩ := own_at Ox3.1
      obtain ⟨aix, capix, rfl, -⟩ := own_at Ox3.2.1
      obtain ⟨aox, capox, rfl, -⟩ := own_at Ox3.2.2.1
      go_wp2_with fail
      refine (CI.out _ _ (Ox3.mvc.step (bl_alloc (Below.refl _ _)))).mono ?_
      rintro e w4 ⟨vg, rfl, Og4, c4⟩
      have b4 := bl_trans (bl_alloc (o := .cells #[.int .i8 mc.bd.wd, .int .i8 mc.bd.hg, .slice asx mc.bd.ps.length capsx, .slice aix mc.ins.length capix, .slice aox mc.outs.length capox] 40) (Below.refl w3.heap.size w3)) c4
      have AY4 := (BX5.new w3 (.int .i8 mc.bd.wd) (.int .i8 mc.bd.hg) (.slice asx mc.bd.ps.length capsx) (.slice aix mc.ins.length capix) (.slice aox mc.outs.length capox) 40).step c4
      have AM4 := AM3.step b4
      have AX4 := AX3.step b4
      have Nwg := own_apart Ow3 Og4 (by first | exact Nat.le_refl _ | simp)
      have Ngw := own_apart' Ow3 Og4 (by first | exact Nat.le_refl _ | simp)
      have Pgx := ownM_apart Ox3 Og4 (by first | exact Nat.le_refl _ | simp)
      have Ow4 := own_below Ow3 b4 (Nat.le_refl _)
      have Ox4 := Ox3.below b4
      have B4 := bl_trans B3 b4
      obtain ⟨ag, capg, rfl, -⟩ := own_at Og4
      go_wp2_with fail
      refine (eqInt64S_yes (own_rv Og4) (own_rv Ow4) (by omega)).mono ?_
      rintro e w5 ⟨rfl, b5⟩
      have AM5 := AM4.step b5
      have AX5 := AX4.step b5
      have AY5 := AY4.step b5
      have Ow5 := own_below Ow4 b5 (Nat.le_refl _)
      have Og5 := own_below Og4 b5 (Nat.le_refl _)
      have Ox5 := Ox4.below b5
      have B5 := bl_trans B4 b5
      go_upto_region 10 with fail
      have CK := Lib.hid (fun w' (h : Below w5.heap.size w5 w') => toMachine_mv (w := w') (AM5.step h) (by omega) (by omega) (by omega))
      have CL := Lib.hid (fun w' v' (h : Below w5.heap.size w5 w') (h' : MV w' v' mc) => eqMachine_yes (w := w') (Ox5.mv.step h) h' (by omega) (by omega) (by omega))
      go_region_held3 (fun w' => Below w5.heap.size w5 w' ∧ ∀ b o, b < w5.heap.size → w'.cell? ⟨b, o, none⟩ = w5.cell? ⟨b, o, none⟩) ((refine ext_s ?_; exact (by repeat (first | with_reducible exact Below.refl _ _ | with_reducible assumption | with_reducible apply bl_drewN | with_reducible apply bl_drew | with_reducible apply bl_alloc | (with_reducible refine bl_set ?_ (by first | (simp; done) | (simp; omega)) _) | with_reducible refine bl_trans ?_ (by with_reducible assumption))))) (first | (go_at_call 18; refine (CK.out _ ?_).mono ?_; (exact (by repeat (first | with_reducible exact Below.refl _ _ | with_reducible assumption | with_reducible apply bl_drewN | with_reducible apply bl_drew | with_reducible apply bl_alloc | (with_reducible refine bl_set ?_ (by first | (simp; done) | (simp; omega)) _) | with_reducible refine bl_trans ?_ (by with_reducible assumption)))); rintro e wa ⟨sa, ia, oa, rfl, Oa, ba⟩; obtain ⟨hca, hfa⟩ := bcell ba) | (go_at_call 21; refine (CL.out _ _ ?_ Oa.mv).mono ?_; (exact (by repeat (first | with_reducible exact Below.refl _ _ | with_reducible assumption | with_reducible apply bl_drewN | with_reducible apply bl_drew | with_reducible apply bl_alloc | (with_reducible refine bl_set ?_ (by first | (simp; done) | (simp; omega)) _) | with_reducible refine bl_trans ?_ (by with_reducible assumption)))); rintro e w6 ⟨rfl, be⟩))
      have b6 : Below w5.heap.size w5 w6 := (by repeat (first | with_reducible exact Below.refl _ _ | with_reducible assumption | with_reducible apply bl_drewN | with_reducible apply bl_drew | with_reducible apply bl_alloc | (with_reducible refine bl_set ?_ (by first | (simp; done) | (simp; omega)) _) | with_reducible refine bl_trans ?_ (by with_reducible assumption)))
      clear CK CL
      have AM6 := AM5.step b6
      have AX6 := AX5.step b6
      have AY6 := AY5.step b6
      have Ow6 := own_below Ow5 b6 (Nat.le_refl _)
      have Og6 := own_below Og5 b6 (Nat.le_refl _)
      have Ox6 := Ox5.below b6
      have B6 := bl_trans B5 b6
      go_wp2_with fail
      refine (markMachine_any Ox6 (by omega) (by omega) (by omega)).mono ?_
      rintro e w7 ⟨rfl, x7a, x7b, ga7, gb7, gc7⟩
      have Ow7 := own_kept3 Ow6 ga7 gb7 gc7 Pwx
      have Og7 := own_kept3 Og6 ga7 gb7 gc7 Pgx
      have B7 := bl_grown3 B6 ga7 gb7 gc7 Ox6 (by have h1 := B2.size; (try simp only [World.size_alloc]); omega)
      have AM7 := A0.step B7
      have AX7 := AX.step B7
      go_wp2_with fail
      refine (eqInt64S_yes (own_rv Og7) (own_rv Ow7) (by omega)).mono ?_
      rintro e w8 ⟨rfl, b8⟩
      have AM8 := AM7.step b8
      have AX8 := AX7.step b8
      have Ow8 := own_below Ow7 b8 (Nat.le_refl _)
      have Og8 := own_below Og7 b8 (Nat.le_refl _)
      have B8 := bl_trans B7 b8
      go_wp2_with fail
      refine (markInt64S_any 1 _ Og8 (by omega) (by omega) (by omega)).mono ?_
      rintro e w9 ⟨rfl, Mg9, g9⟩
      have Ow9 := own_kept Ow8 g9 Nwg
      have B9 := bl_grown B8 g9 (fun k hk => by have h1 := B3.size; have h2 := (Og8.lt k hk).1; (try simp only [World.size_alloc] at h2); omega)
      have AM9 := A0.step B9
      have AX9 := AX.step B9
      go_wp2_with fail
      refine (heldInt64S_own 1 Mg9 (by omega) (by omega) (by omega)).mono ?_
      rintro e w' ⟨rfl, rfl⟩
      go_wp2_with fail
      refine (toMachine_mv AM9 (by omega) (by omega) (by omega)).mono ?_
      rintro e w10 ⟨sz, iz, oz, rfl, Oz10, b10⟩
      have AM10 := AM9.step b10
      have AX10 := AX9.step b10
      have Pwz := ownM_apart' Ow9 Oz10 (by first | exact Nat.le_refl _ | simp)
      have Pgz := ownM_apart' Mg9 Oz10 (by first | exact Nat.le_refl _ | simp)
      have Ow10 := own_below Ow9 b10 (Nat.le_refl _)
      have Og10 := own_below Mg9 b10 (Nat.le_refl _)
      have B10 := bl_trans B9 b10
      obtain ⟨asz, capsz, rfl, -⟩ := own_at Oz10.1
      obtain ⟨aiz, capiz, rfl, -⟩ := own_at Oz10.2.1
      obtain ⟨aoz, capoz, rfl, -⟩ := own_at Oz10.2.2.1
      go_wp2_with fail
      refine (CI.out _ _ Oz10.mvc).mono ?_
      rintro e w11 ⟨vh, rfl, Oh11, b11⟩
      have AM11 := AM10.step b11
      have AX11 := AX10.step b11
      have Nwh := own_apart Ow10 Oh11 (by first | exact Nat.le_refl _ | simp)
      have Nhw := own_apart' Ow10 Oh11 (by first | exact Nat.le_refl _ | simp)
      have Ngh := own_apart Og10 Oh11 (by first | exact Nat.le_refl _ | simp)
      have Nhg := own_apart' Og10 Oh11 (by first | exact Nat.le_refl _ | simp)
      have Phz := ownM_apart Oz10 Oh11 (by first | exact Nat.le_refl _ | simp)
      have Ow11 := own_below Ow10 b11 (Nat.le_refl _)
      have Og11 := own_below Og10 b11 (Nat.le_refl _)
      have Oz11 := Oz10.below b11
      have B11 := bl_trans B10 b11
      obtain ⟨ah, caph, rfl, -⟩ := own_at Oh11
      go_wp2_with fail
      refine (eqInt64S_yes (own_rv Oh11) (own_rv Ow11) (by omega)).mono ?_
      rintro e w12 ⟨rfl, b12⟩
      have AM12 := AM11.step b12
      have AX12 := AX11.step b12
      have Ow12 := own_below Ow11 b12 (Nat.le_refl _)
      have Og12 := own_below Og11 b12 (Nat.le_refl _)
      have Oh12 := own_below Oh11 b12 (Nat.le_refl _)
      have Oz12 := Oz11.below b12
      have B12 := bl_trans B11 b12
      go_wp2_with fail
      refine (heldInt64S_own 1 Og12 (by omega) (by omega) (by omega)).mono ?_
      rintro e w' ⟨rfl, rfl⟩
      go_wp2
      go_ret
      exact ⟨rfl, bl_trans bu0 B12⟩
    · have Hs : Hid (sz3 mc.bd.ps.length mc.ins.length mc.outs.length 1048576 = -1) := Lib.hid (by unfold sz3; rw [if_neg hn])
      go_enter Tryz.func12, Tryz.ntmps12
      go_wp2_with fail
      refine (szMachine_any mc.bd.wd mc.bd.hg a _ cap a1 _ cap1 a2 _ cap2 _ _ (by omega) (by omega) (by omega) (by omega) (by omega)).mono ?_
      rintro e u ⟨rfl, bu⟩
      rw [Hs.out]
      have bu0 : Below w.heap.size w u := bl_trans (bl_alloc (Below.refl _ _)) bu
      go_wp2
      go_ret
      exact ⟨rfl, bu0⟩
  · exact absurd trivial hL
set_option maxRecDepth 100000 in
theorem lawIsSteady_any (mc : Mc) (a a1 a2 : Option Addr) (cap cap1 cap2 : Nat) (bt : Int) (w : World) (h0 : PcsAt w.heap.size w a mc.bd.ps) (h1 : SlAt w.heap.size w a1 (flat Po.cells mc.ins)) (h2 : SlAt w.heap.size w a2 (flat Ce.cells mc.outs)) (hok : mc.ok)
    (l0 : mc.bd.ps.length ≤ 9223372036854775807) (l1 : mc.ins.length ≤ 9223372036854775807) (l2 : mc.outs.length ≤ 9223372036854775807) :
    Calls Tryz.prog 13 #[mcv mc.bd.wd mc.bd.hg (.slice a mc.bd.ps.length cap) (.slice a1 mc.ins.length cap1) (.slice a2 mc.outs.length cap2), .int .i64 bt] w fun e w' => e = .returned (.bool true) ∧ Below w.heap.size w w' := by
  by_cases hL : True
  · by_cases hn : (mc.bd.ps.length : Int) + mc.ins.length + mc.outs.length ≤ 1048576
    · obtain ⟨lf, Hs, hlf, hlf2⟩ : ∃ lf : Int, Hid (sz3 mc.bd.ps.length mc.ins.length mc.outs.length 1048576 = lf) ∧ 0 ≤ lf ∧ lf ≤ 1048576 := ⟨_, Lib.hid rfl, by unfold sz3; rw [if_pos hn]; omega, by unfold sz3; rw [if_pos hn]; omega⟩
      have M0 : MV w (mcv mc.bd.wd mc.bd.hg (.slice a mc.bd.ps.length cap) (.slice a1 mc.ins.length cap1) (.slice a2 mc.outs.length cap2)) mc := ⟨_, _, _, rfl, ⟨a, cap, rfl, h0⟩, ⟨a1, cap1, rfl, h1⟩, a2, cap2, rfl, h2⟩
      have X0 := BX5.new w (.int .i8 mc.bd.wd) (.int .i8 mc.bd.hg) (.slice a mc.bd.ps.length cap) (.slice a1 mc.ins.length cap1) (.slice a2 mc.outs.length cap2) 29
      obtain ⟨rv0, hrv0⟩ : ∃ rv, rv = stdyB (usCode mc bt) := ⟨_, rfl⟩
      obtain ⟨rc, hrc⟩ : ∃ rc, rc = stdyC (usCode mc bt) := ⟨_, rfl⟩
      have CS := fun v w' (h : MV w' v mc) => specIsSteady_any mc v bt w' h hok (by omega) (by omega) (by omega)
      have CI := fun v w' (h : MVc w' v mc) => isSteady_any mc v bt w' h hok (by omega) (by omega) (by omega)
      simp only [← hrv0, ← hrc] at CS CI
      have CS := Lib.hid CS
      have CI := Lib.hid CI
      clear hrv0 hrc h0 h1 h2
      go_enter Tryz.func13, Tryz.ntmps13
      go_wp2_with fail
      refine (szMachine_any mc.bd.wd mc.bd.hg a _ cap a1 _ cap1 a2 _ cap2 _ _ (by omega) (by omega) (by omega) (by omega) (by omega)).mono ?_
      rintro e u ⟨rfl, bu⟩
      rw [Hs.out]
      have bu0 : Below w.heap.size w u := bl_trans (bl_alloc (Below.refl _ _)) bu
      have A0 := (M0.step (bl_alloc (Below.refl _ _))).step bu
      have AX := X0.step bu
      go_wp2_with fail
      refine (toMachine_mv A0 (by omega) (by omega) (by omega)).mono ?_
      rintro e w1 ⟨sm, im, om, rfl, Om1, b1⟩
      have AM1 := A0.step b1
      have AX1 := AX.step b1
      have B1 := b1
      obtain ⟨asm, capsm, rfl, -⟩ := own_at Om1.1
      obtain ⟨aim, capim, rfl, -⟩ := own_at Om1.2.1
      obtain ⟨aom, capom, rfl, -⟩ := own_at Om1.2.2.1
      go_wp2_with fail
      refine (CS.out _ _ Om1.mv).mono ?_
      rintro e w2 ⟨rfl, b2⟩
      have AM2 := AM1.step b2
      have AX2 := AX1.step b2
      have Om2 := Om1.below b2
      have B2 := bl_trans B1 b2
      go_wp2_with fail
      refine (toMachine_mv AM2 (by omega) (by omega) (by omega)).mono ?_
      rintro e w3 ⟨sx, ix, ox, rfl, Ox3, b3⟩
      have AM3 := AM2.step b3
      have AX3 := AX2.step b3
      have B3 := bl_trans B2 b3
      obtain ⟨asx, capsx, rfl, -⟩ := own_at Ox3.1
      obtain ⟨aix, capix, rfl, -⟩ := own_at Ox3.2.1
      obtain ⟨aox, capox, rfl, -⟩ := own_at Ox3.2.2.1
      go_wp2_with fail
      refine (CI.out _ _ (Ox3.mvc.step (bl_alloc (Below.refl _ _)))).mono ?_
      rintro e w4 ⟨rfl, c4⟩
      have b4 := bl_trans (bl_alloc (o := .cells #[.int .i8 mc.bd.wd, .int .i8 mc.bd.hg, .slice asx mc.bd.ps.length capsx, .slice aix mc.ins.length capix, .slice aox mc.outs.length capox] 40) (Below.refl w3.heap.size w3)) c4
      have AY4 := (BX5.new w3 (.int .i8 mc.bd.wd) (.int .i8 mc.bd.hg) (.slice asx mc.bd.ps.length capsx) (.slice aix mc.ins.length capix) (.slice aox mc.outs.length capox) 40).step c4
      have AM4 := AM3.step b4
      have AX4 := AX3.step b4
      have Ox4 := Ox3.below b4
      have B4 := bl_trans B3 b4
      go_upto_region 10 with fail
      have CK := Lib.hid (fun w' (h : Below w4.heap.size w4 w') => toMachine_mv (w := w') (AM4.step h) (by omega) (by omega) (by omega))
      have CL := Lib.hid (fun w' v' (h : Below w4.heap.size w4 w') (h' : MV w' v' mc) => eqMachine_yes (w := w') (Ox4.mv.step h) h' (by omega) (by omega) (by omega))
      go_region_held3 (fun w' => Below w4.heap.size w4 w' ∧ ∀ b o, b < w4.heap.size → w'.cell? ⟨b, o, none⟩ = w4.cell? ⟨b, o, none⟩) ((refine ext_s ?_; exact (by repeat (first | with_reducible exact Below.refl _ _ | with_reducible assumption | with_reducible apply bl_drewN | with_reducible apply bl_drew | with_reducible apply bl_alloc | (with_reducible refine bl_set ?_ (by first | (simp; done) | (simp; omega)) _) | with_reducible refine bl_trans ?_ (by with_reducible assumption))))) (first | (go_at_call 18; refine (CK.out _ ?_).mono ?_; (exact (by repeat (first | with_reducible exact Below.refl _ _ | with_reducible assumption | with_reducible apply bl_drewN | with_reducible apply bl_drew | with_reducible apply bl_alloc | (with_reducible refine bl_set ?_ (by first | (simp; done) | (simp; omega)) _) | with_reducible refine bl_trans ?_ (by with_reducible assumption)))); rintro e wa ⟨sa, ia, oa, rfl, Oa, ba⟩; obtain ⟨hca, hfa⟩ := bcell ba) | (go_at_call 21; refine (CL.out _ _ ?_ Oa.mv).mono ?_; (exact (by repeat (first | with_reducible exact Below.refl _ _ | with_reducible assumption | with_reducible apply bl_drewN | with_reducible apply bl_drew | with_reducible apply bl_alloc | (with_reducible refine bl_set ?_ (by first | (simp; done) | (simp; omega)) _) | with_reducible refine bl_trans ?_ (by with_reducible assumption)))); rintro e w5 ⟨rfl, be⟩))
      have b5 : Below w4.heap.size w4 w5 := (by repeat (first | with_reducible exact Below.refl _ _ | with_reducible assumption | with_reducible apply bl_drewN | with_reducible apply bl_drew | with_reducible apply bl_alloc | (with_reducible refine bl_set ?_ (by first | (simp; done) | (simp; omega)) _) | with_reducible refine bl_trans ?_ (by with_reducible assumption)))
      clear CK CL
      have AM5 := AM4.step b5
      have AX5 := AX4.step b5
      have AY5 := AY4.step b5
      have Ox5 := Ox4.below b5
      have B5 := bl_trans B4 b5
      go_wp2
      go_ret
      exact ⟨rfl, bl_trans bu0 B5⟩
    · have Hs : Hid (sz3 mc.bd.ps.length mc.ins.length mc.outs.length 1048576 = -1) := Lib.hid (by unfold sz3; rw [if_neg hn])
      go_enter Tryz.func13, Tryz.ntmps13
      go_wp2_with fail
      refine (szMachine_any mc.bd.wd mc.bd.hg a _ cap a1 _ cap1 a2 _ cap2 _ _ (by omega) (by omega) (by omega) (by omega) (by omega)).mono ?_
      rintro e u ⟨rfl, bu⟩
      rw [Hs.out]
      have bu0 : Below w.heap.size w u := bl_trans (bl_alloc (Below.refl _ _)) bu
      go_wp2
      go_ret
      exact ⟨rfl, bu0⟩
  · exact absurd trivial hL
set_option maxRecDepth 100000 in
theorem lawMachineNeeds_any (mc : Mc) (a a1 a2 : Option Addr) (cap cap1 cap2 : Nat) (w : World) (h0 : PcsAt w.heap.size w a mc.bd.ps) (h1 : SlAt w.heap.size w a1 (flat Po.cells mc.ins)) (h2 : SlAt w.heap.size w a2 (flat Ce.cells mc.outs)) (hok : mc.ok)
    (l0 : mc.bd.ps.length ≤ 9223372036854775807) (l1 : mc.ins.length ≤ 9223372036854775807) (l2 : mc.outs.length ≤ 9223372036854775807) :
    Calls Tryz.prog 10 #[mcv mc.bd.wd mc.bd.hg (.slice a mc.bd.ps.length cap) (.slice a1 mc.ins.length cap1) (.slice a2 mc.outs.length cap2)] w fun e w' => e = .returned (.bool true) ∧ Below w.heap.size w w' := by
  by_cases hL : True
  · by_cases hn : (mc.bd.ps.length : Int) + mc.ins.length + mc.outs.length ≤ 1048576
    · obtain ⟨lf, Hs, hlf, hlf2⟩ : ∃ lf : Int, Hid (sz3 mc.bd.ps.length mc.ins.length mc.outs.length 1048576 = lf) ∧ 0 ≤ lf ∧ lf ≤ 1048576 := ⟨_, Lib.hid rfl, by unfold sz3; rw [if_pos hn]; omega, by unfold sz3; rw [if_pos hn]; omega⟩
      have M0 : MV w (mcv mc.bd.wd mc.bd.hg (.slice a mc.bd.ps.length cap) (.slice a1 mc.ins.length cap1) (.slice a2 mc.outs.length cap2)) mc := ⟨_, _, _, rfl, ⟨a, cap, rfl, h0⟩, ⟨a1, cap1, rfl, h1⟩, a2, cap2, rfl, h2⟩
      have X0 := BX5.new w (.int .i8 mc.bd.wd) (.int .i8 mc.bd.hg) (.slice a mc.bd.ps.length cap) (.slice a1 mc.ins.length cap1) (.slice a2 mc.outs.length cap2) 29
      have hln : (nvList mc).length ≤ 1048576 := by have := nvList_len mc; omega
      obtain ⟨rv0, hrv0⟩ : ∃ rv, rv = nvList mc := ⟨_, rfl⟩
      obtain ⟨rc, hrc⟩ : ∃ rc, rc = mCode mc := ⟨_, rfl⟩
      have CS := fun v w' (h : MV w' v mc) => specMachineNeeds_any mc v w' h hok (by omega) (by omega) (by omega)
      have CI := fun v w' (h : MVc w' v mc) => machineNeeds_any mc v w' h hok (by omega) (by omega) (by omega)
      simp only [← hrv0, ← hrc] at CS CI
      rw [← hrv0] at hln
      have CS := Lib.hid CS
      have CI := Lib.hid CI
      clear hrv0 hrc h0 h1 h2
      go_enter Tryz.func10, Tryz.ntmps10
      go_wp2_with fail
      refine (szMachine_any mc.bd.wd mc.bd.hg a _ cap a1 _ cap1 a2 _ cap2 _ _ (by omega) (by omega) (by omega) (by omega) (by omega)).mono ?_
      rintro e u ⟨rfl, bu⟩
      rw [Hs.out]
      have bu0 : Below w.heap.size w u := bl_trans (bl_alloc (Below.refl _ _)) bu
      have A0 := (M0.step (bl_alloc (Below.refl _ _))).step bu
      have AX := X0.step bu
      go_wp2_with fail
      refine (toMachine_mv A0 (by omega) (by omega) (by omega)).mono ?_
      rintro e w1 ⟨sm, im, om, rfl, Om1, b1⟩
      have AM1 := A0.step b1
      have AX1 := AX.step b1
      have B1 := b1
      obtain ⟨asm, capsm, rfl, -⟩ := own_at Om1.1
      obtain ⟨aim, capim, rfl, -⟩ := own_at Om1.2.1
      obtain ⟨aom, capom, rfl, -⟩ := own_at Om1.2.2.1
      go_wp2_with fail
      refine (CS.out _ _ Om1.mv).mono ?_
      rintro e w2 ⟨vw, rfl, Ow2, b2⟩
      have AM2 := AM1.step b2
      have AX2 := AX1.step b2
      have Pwm := ownM_apart Om1 Ow2 (by first | exact Nat.le_refl _ | simp)
      have Om2 := Om1.below b2
      have B2 := bl_trans B1 b2
      obtain ⟨aw, capw, rfl, -⟩ := own_at Ow2
      go_wp2_with fail
      refine (toMachine_mv AM2 (by omega) (by omega) (by omega)).mono ?_
      rintro e w3 ⟨sx, ix, ox, rfl, Ox3, b3⟩
      have AM3 := AM2.step b3
      have AX3 := AX2.step b3
      have Pwx := ownM_apart' Ow2 Ox3 (by first | exact Nat.le_refl _ | simp)
      have Ow3 := own_below Ow2 b3 (Nat.le_refl _)
      have B3 := bl_trans B2 b3
      obtain ⟨asx, capsx, rfl, -⟩ := own_at Ox3.1
      obtain ⟨aix, capix, rfl, -⟩ := own_at Ox3.2.1
      obtain ⟨aox, capox, rfl, -⟩ := own_at Ox3.2.2.1
      go_wp2_with fail
      refine (CI.out _ _ (Ox3.mvc.step (bl_alloc (Below.refl _ _)))).mono ?_
      rintro e w4 ⟨vg, rfl, Og4, c4⟩
      have b4 := bl_trans (bl_alloc (o := .cells #[.int .i8 mc.bd.wd, .int .i8 mc.bd.hg, .slice asx mc.bd.ps.length capsx, .slice aix mc.ins.length capix, .slice aox mc.outs.length capox] 40) (Below.refl w3.heap.size w3)) c4
      have AY4 := (BX5.new w3 (.int .i8 mc.bd.wd) (.int .i8 mc.bd.hg) (.slice asx mc.bd.ps.length capsx) (.slice aix mc.ins.length capix) (.slice aox mc.outs.length capox) 40).step c4
      have AM4 := AM3.step b4
      have AX4 := AX3.step b4
      have Nwg := own_apart Ow3 Og4 (by first | exact Nat.le_refl _ | simp)
      have Ngw := own_apart' Ow3 Og4 (by first | exact Nat.le_refl _ | simp)
      have Pgx := ownM_apart Ox3 Og4 (by first | exact Nat.le_refl _ | simp)
      have Ow4 := own_below Ow3 b4 (Nat.le_refl _)
      have Ox4 := Ox3.below b4
      have B4 := bl_trans B3 b4
      obtain ⟨ag, capg, rfl, -⟩ := own_at Og4
      go_wp2_with fail
      refine (eqBoolS_yes (own_rv Og4) (own_rv Ow4) (by omega)).mono ?_
      rintro e w5 ⟨rfl, b5⟩
      have AM5 := AM4.step b5
      have AX5 := AX4.step b5
      have AY5 := AY4.step b5
      have Ow5 := own_below Ow4 b5 (Nat.le_refl _)
      have Og5 := own_below Og4 b5 (Nat.le_refl _)
      have Ox5 := Ox4.below b5
      have B5 := bl_trans B4 b5
      go_upto_region 10 with fail
      have CK := Lib.hid (fun w' (h : Below w5.heap.size w5 w') => toMachine_mv (w := w') (AM5.step h) (by omega) (by omega) (by omega))
      have CL := Lib.hid (fun w' v' (h : Below w5.heap.size w5 w') (h' : MV w' v' mc) => eqMachine_yes (w := w') (Ox5.mv.step h) h' (by omega) (by omega) (by omega))
      go_region_held3 (fun w' => Below w5.heap.size w5 w' ∧ ∀ b o, b < w5.heap.size → w'.cell? ⟨b, o, none⟩ = w5.cell? ⟨b, o, none⟩) ((refine ext_s ?_; exact (by repeat (first | with_reducible exact Below.refl _ _ | with_reducible assumption | with_reducible apply bl_drewN | with_reducible apply bl_drew | with_reducible apply bl_alloc | (with_reducible refine bl_set ?_ (by first | (simp; done) | (simp; omega)) _) | with_reducible refine bl_trans ?_ (by with_reducible assumption))))) (first | (go_at_call 18; refine (CK.out _ ?_).mono ?_; (exact (by repeat (first | with_reducible exact Below.refl _ _ | with_reducible assumption | with_reducible apply bl_drewN | with_reducible apply bl_drew | with_reducible apply bl_alloc | (with_reducible refine bl_set ?_ (by first | (simp; done) | (simp; omega)) _) | with_reducible refine bl_trans ?_ (by with_reducible assumption)))); rintro e wa ⟨sa, ia, oa, rfl, Oa, ba⟩; obtain ⟨hca, hfa⟩ := bcell ba) | (go_at_call 21; refine (CL.out _ _ ?_ Oa.mv).mono ?_; (exact (by repeat (first | with_reducible exact Below.refl _ _ | with_reducible assumption | with_reducible apply bl_drewN | with_reducible apply bl_drew | with_reducible apply bl_alloc | (with_reducible refine bl_set ?_ (by first | (simp; done) | (simp; omega)) _) | with_reducible refine bl_trans ?_ (by with_reducible assumption)))); rintro e w6 ⟨rfl, be⟩))
      have b6 : Below w5.heap.size w5 w6 := (by repeat (first | with_reducible exact Below.refl _ _ | with_reducible assumption | with_reducible apply bl_drewN | with_reducible apply bl_drew | with_reducible apply bl_alloc | (with_reducible refine bl_set ?_ (by first | (simp; done) | (simp; omega)) _) | with_reducible refine bl_trans ?_ (by with_reducible assumption)))
      clear CK CL
      have AM6 := AM5.step b6
      have AX6 := AX5.step b6
      have AY6 := AY5.step b6
      have Ow6 := own_below Ow5 b6 (Nat.le_refl _)
      have Og6 := own_below Og5 b6 (Nat.le_refl _)
      have Ox6 := Ox5.below b6
      have B6 := bl_trans B5 b6
      go_wp2_with fail
      refine (markMachine_any Ox6 (by omega) (by omega) (by omega)).mono ?_
      rintro e w7 ⟨rfl, x7a, x7b, ga7, gb7, gc7⟩
      have Ow7 := own_kept3 Ow6 ga7 gb7 gc7 Pwx
      have Og7 := own_kept3 Og6 ga7 gb7 gc7 Pgx
      have B7 := bl_grown3 B6 ga7 gb7 gc7 Ox6 (by have h1 := B2.size; (try simp only [World.size_alloc]); omega)
      have AM7 := A0.step B7
      have AX7 := AX.step B7
      go_wp2_with fail
      refine (eqBoolS_yes (own_rv Og7) (own_rv Ow7) (by omega)).mono ?_
      rintro e w8 ⟨rfl, b8⟩
      have AM8 := AM7.step b8
      have AX8 := AX7.step b8
      have Ow8 := own_below Ow7 b8 (Nat.le_refl _)
      have Og8 := own_below Og7 b8 (Nat.le_refl _)
      have B8 := bl_trans B7 b8
      go_wp2_with fail
      refine (markBoolS_any 1 _ Og8 (by omega) (by omega) (by omega)).mono ?_
      rintro e w9 ⟨rfl, Mg9, g9⟩
      have Ow9 := own_kept Ow8 g9 Nwg
      have B9 := bl_grown B8 g9 (fun k hk => by have h1 := B3.size; have h2 := (Og8.lt k hk).1; (try simp only [World.size_alloc] at h2); omega)
      have AM9 := A0.step B9
      have AX9 := AX.step B9
      go_wp2_with fail
      refine (heldBoolS_own 1 Mg9 (by omega) (by omega) (by omega)).mono ?_
      rintro e w' ⟨rfl, rfl⟩
      go_wp2_with fail
      refine (toMachine_mv AM9 (by omega) (by omega) (by omega)).mono ?_
      rintro e w10 ⟨sz, iz, oz, rfl, Oz10, b10⟩
      have AM10 := AM9.step b10
      have AX10 := AX9.step b10
      have Pwz := ownM_apart' Ow9 Oz10 (by first | exact Nat.le_refl _ | simp)
      have Pgz := ownM_apart' Mg9 Oz10 (by first | exact Nat.le_refl _ | simp)
      have Ow10 := own_below Ow9 b10 (Nat.le_refl _)
      have Og10 := own_below Mg9 b10 (Nat.le_refl _)
      have B10 := bl_trans B9 b10
      obtain ⟨asz, capsz, rfl, -⟩ := own_at Oz10.1
      obtain ⟨aiz, capiz, rfl, -⟩ := own_at Oz10.2.1
      obtain ⟨aoz, capoz, rfl, -⟩ := own_at Oz10.2.2.1
      go_wp2_with fail
      refine (CI.out _ _ Oz10.mvc).mono ?_
      rintro e w11 ⟨vh, rfl, Oh11, b11⟩
      have AM11 := AM10.step b11
      have AX11 := AX10.step b11
      have Nwh := own_apart Ow10 Oh11 (by first | exact Nat.le_refl _ | simp)
      have Nhw := own_apart' Ow10 Oh11 (by first | exact Nat.le_refl _ | simp)
      have Ngh := own_apart Og10 Oh11 (by first | exact Nat.le_refl _ | simp)
      have Nhg := own_apart' Og10 Oh11 (by first | exact Nat.le_refl _ | simp)
      have Phz := ownM_apart Oz10 Oh11 (by first | exact Nat.le_refl _ | simp)
      have Ow11 := own_below Ow10 b11 (Nat.le_refl _)
      have Og11 := own_below Og10 b11 (Nat.le_refl _)
      have Oz11 := Oz10.below b11
      have B11 := bl_trans B10 b11
      obtain ⟨ah, caph, rfl, -⟩ := own_at Oh11
      go_wp2_with fail
      refine (eqBoolS_yes (own_rv Oh11) (own_rv Ow11) (by omega)).mono ?_
      rintro e w12 ⟨rfl, b12⟩
      have AM12 := AM11.step b12
      have AX12 := AX11.step b12
      have Ow12 := own_below Ow11 b12 (Nat.le_refl _)
      have Og12 := own_below Og11 b12 (Nat.le_refl _)
      have Oh12 := own_below Oh11 b12 (Nat.le_refl _)
      have Oz12 := Oz11.below b12
      have B12 := bl_trans B11 b12
      go_wp2_with fail
      refine (heldBoolS_own 1 Og12 (by omega) (by omega) (by omega)).mono ?_
      rintro e w' ⟨rfl, rfl⟩
      go_wp2
      go_ret
      exact ⟨rfl, bl_trans bu0 B12⟩
    · have Hs : Hid (sz3 mc.bd.ps.length mc.ins.length mc.outs.length 1048576 = -1) := Lib.hid (by unfold sz3; rw [if_neg hn])
      go_enter Tryz.func10, Tryz.ntmps10
      go_wp2_with fail
      refine (szMachine_any mc.bd.wd mc.bd.hg a _ cap a1 _ cap1 a2 _ cap2 _ _ (by omega) (by omega) (by omega) (by omega) (by omega)).mono ?_
      rintro e u ⟨rfl, bu⟩
      rw [Hs.out]
      have bu0 : Below w.heap.size w u := bl_trans (bl_alloc (Below.refl _ _)) bu
      go_wp2
      go_ret
      exact ⟨rfl, bu0⟩
  · exact absurd trivial hL
end Go.Proofs.YtdhjhnbmecbaaaaGreat
/- Plain words and contracts: l03Least, firstDifferent. -/
namespace Go.Proofs.YtdhjhnbmecbaaaaGreat
open Go.RowKit
set_option linter.unusedVariables false
set_option linter.unusedSimpArgs false
set_option maxHeartbeats 400000
set_option maxRecDepth 100000
def dfOr (xs ys : List Nat) : Nat → Nat
  | 0 => 0
  | k + 1 => dfOr xs ys k ||| (xs.getD k 0 ^^^ ys.getD k 0)
def dfP (xs ys : List Nat) (n r : Nat) : Bool := (List.range n).any (fun i => (xs.getD i 0).testBit r != (ys.getD i 0).testBit r)
theorem dfP_succ (xs ys : List Nat) (n r : Nat) : dfP xs ys (n + 1) r = (dfP xs ys n r || ((xs.getD n 0).testBit r != (ys.getD n 0).testBit r)) := by
  unfold dfP
  rw [List.range_succ, List.any_append]
  simp
theorem dfOr_bit (xs ys : List Nat) (n r : Nat) : (dfOr xs ys n).testBit r = dfP xs ys n r := by
  induction n with
  | zero => exact Nat.zero_testBit r
  | succ n ih =>
    rw [dfP_succ]
    show Nat.testBit (dfOr xs ys n ||| (xs.getD n 0 ^^^ ys.getD n 0)) r = _
    rw [Nat.testBit_or, Nat.testBit_xor, ih]
def ltAll (xs : List Nat) (K : Nat) : Prop := ∀ i, xs.getD i 0 < K
theorem dfOr_lt (xs ys : List Nat) (R : Nat) (hx : ltAll xs (2 ^ R)) (hy : ltAll ys (2 ^ R)) (n : Nat) : dfOr xs ys n < 2 ^ R := by
  induction n with
  | zero => exact Nat.two_pow_pos R
  | succ n ih => exact Nat.or_lt_two_pow ih (Nat.xor_lt_two_pow (hx n) (hy n))
def dfVal (p : Nat → Bool) (R : Nat) : Int × Int := match (List.range R).find? p with
  | some r => ((r : Int), 0)
  | none => (0, 6)
theorem dfVal_none (p : Nat → Bool) (R : Nat) (h : ∀ r, r < R → p r = false) : dfVal p R = (0, 6) := by
  have : (List.range R).find? p = none := by
    rw [List.find?_eq_none]
    intro x hx
    rw [h x (List.mem_range.1 hx)]
    simp
  unfold dfVal
  rw [this]
theorem dfVal_some (p : Nat → Bool) (R r : Nat) (hr : r < R) (h : ∀ j, j < r → p j = false) (hp : p r = true) : dfVal p R = ((r : Int), 0) := by
  have : (List.range R).find? p = some r := by
    rw [List.find?_range_eq_some]
    exact ⟨hp, by simpa using hr, fun j hj => by rw [h j hj]; rfl⟩
  unfold dfVal
  rw [this]
theorem bitu_val (n i : Nat) (hn : n < 18446744073709551616) : bits .and .u64 ((n : Int) / 2 ^ i) 1 = if n.testBit i = true then 1 else 0 := by
  have h1 : n / 2 ^ i < 18446744073709551616 := Nat.lt_of_le_of_lt (Nat.div_le_self _ _) hn
  rw [div_pow]
  have h2 := (bits_u64 (n / 2 ^ i) 1 h1 (by omega)).1
  have h3 : bits .and .u64 ((n / 2 ^ i : Nat) : Int) 1 = ((n / 2 ^ i &&& 1 : Nat) : Int) := h2
  rw [h3, bit_and]
  unfold bitN
  cases n.testBit i <;> rfl
theorem castN_get (xs : List Nat) (i : Nat) (hi : i < (xs.map (fun (n : Nat) => (n : Int))).length) (h2 : i < xs.length) : (xs.map (fun (n : Nat) => (n : Int)))[i] = ((xs.getD i 0 : Nat) : Int) := by
  rw [List.getElem_map, List.getD_eq_getElem?_getD, List.getElem?_eq_getElem h2]; rfl
/-- The least row with a 1. -/
theorem least_bit (x R : Nat) (hx : x < 2 ^ R) (h0 : x ≠ 0) : ∃ r, r < R ∧ x.testBit r = true ∧ ∀ j, j < r → x.testBit j = false := by
  have h1 : ∃ r, x.testBit r = true := by
    rcases Classical.em (∃ r, x.testBit r = true) with h | h
    · exact h
    · refine absurd (Nat.eq_of_testBit_eq (fun i => ?_)) h0
      rw [Nat.zero_testBit]
      rcases Bool.eq_false_or_eq_true (x.testBit i) with g | g
      · exact absurd ⟨i, g⟩ h
      · exact g
  have h2 : ∀ n, (∃ r, r < n ∧ x.testBit r = true) → ∃ r, r < n ∧ x.testBit r = true ∧ ∀ j, j < r → x.testBit j = false := by
    intro n
    induction n with
    | zero => rintro ⟨r, hr, -⟩; omega
    | succ n ih =>
      rintro ⟨r, hr, hb⟩
      by_cases h3 : ∃ r, r < n ∧ x.testBit r = true
      · obtain ⟨r, h4, h5⟩ := ih h3
        exact ⟨r, by omega, h5⟩
      · have h6 : r = n := by
          rcases Nat.lt_or_ge r n with h | h
          · exact absurd ⟨r, h, hb⟩ h3
          · omega
        subst h6
        refine ⟨r, by omega, hb, fun j hj => ?_⟩
        rcases Bool.eq_false_or_eq_true (x.testBit j) with g | g
        · exact absurd ⟨j, hj, g⟩ h3
        · exact g
  obtain ⟨r, hr⟩ := h1
  have hrR : r < R := by
    rcases Nat.lt_or_ge r R with h | h
    · exact h
    · rw [Nat.testBit_lt_two_pow (Nat.lt_of_lt_of_le hx (pow_mono2 h))] at hr; cases hr
  exact h2 R ⟨r, hrR, hr⟩
theorem l03Least_any (xs ys : List Nat) (R n : Nat) (a a' : Option Addr) (cap cap' : Nat) (w : World) (hn : n ≤ 64) (hR : R ≤ 64) (hx : xs.length = n) (hy : ys.length = n) (hxl : ltAll xs (2 ^ R)) (hyl : ltAll ys (2 ^ R))
    (h : SlAt w.heap.size w a (flat U64_cells (xs.map (fun (n : Nat) => (n : Int))))) (h' : SlAt w.heap.size w a' (flat U64_cells (ys.map (fun (n : Nat) => (n : Int))))) :
    Calls Tryz.prog 86 #[.slice a n cap, .slice a' n cap'] w fun e w' => e = .returned (.tuple #[.int .i64 (dfVal (dfP xs ys n) R).1, .int .i64 (dfVal (dfP xs ys n) R).2]) ∧ Below w.heap.size w w' := by
  have h64 : 2 ^ R ≤ 18446744073709551616 := by have := pow_mono2 (a := R) (b := 64) hR; omega
  have HOL := Lib.hid (dfOr_lt xs ys R hxl hyl)
  have HOB := Lib.hid (dfOr_bit xs ys n)
  have HXL := Lib.hid hxl
  have HYL := Lib.hid hyl
  have HXN : Hid ((xs.map (fun (n : Nat) => (n : Int))).length = n) := Lib.hid (by rw [List.length_map, hx])
  have HYN : Hid ((ys.map (fun (n : Nat) => (n : Int))).length = n) := Lib.hid (by rw [List.length_map, hy])
  have HXG := Lib.hid (fun i hi => castN_get xs i hi)
  have HYG := Lib.hid (fun i hi => castN_get ys i hi)
  have HXE := Lib.hid hx
  have HYE := Lib.hid hy
  have HSO : Hid (∀ k, dfOr xs ys (k + 1) = dfOr xs ys k ||| (xs.getD k 0 ^^^ ys.getD k 0)) := Lib.hid (fun k => rfl)
  have HN := Lib.hid (dfVal_none (dfP xs ys n) R)
  have HY := Lib.hid (fun r => dfVal_some (dfP xs ys n) R r)
  obtain ⟨res, hres⟩ : ∃ res, res = dfVal (dfP xs ys n) R := ⟨_, rfl⟩
  rw [← hres] at HN ⊢
  simp only [← hres] at HY
  clear hres hx hy hxl hyl
  go_enter Tryz.func86, Tryz.ntmps86
  go_wp2
  go_loopw [6, 7] (fun ax ix wr => ∃ k : Nat, k ≤ n ∧ ix = .int .i64 k ∧ ax = .int .u64 ((dfOr xs ys k : Nat) : Int) ∧ Below w.heap.size w wr) (fun _ ix _ => n - (intOf ix).toNat)
  case atStart => exact ⟨0, by omega, rfl, rfl, Below.refl _ _⟩
  case round =>
    obtain ⟨k, hk, rfl, rfl, hb⟩ := hrel
    by_cases hlt : k < n
    · have hkI : (k : Int) < n := by omega
      have hkx : k < (xs.map (fun (n : Nat) => (n : Int))).length := by rw [HXN.out]; exact hlt
      have hky : k < (ys.map (fun (n : Nat) => (n : Int))).length := by rw [HYN.out]; exact hlt
      obtain ⟨bx, offx, rfl, hbx, hatx⟩ := u64s_get h hkx
      obtain ⟨bY, offY, rfl, hbY, hatY⟩ := u64s_get h' hky
      unfold U64At at hatx hatY
      rw [Nat.mul_one, HXG.out k hkx (by rw [HXE.out]; exact hlt)] at hatx
      rw [Nat.mul_one, HYG.out k hky (by rw [HYE.out]; exact hlt)] at hatY
      have q0 : wr.cell? ⟨bx, offx + k, none⟩ = some (.int .u64 ((xs.getD k 0 : Nat) : Int)) := by rw [hb.cell (p := ⟨_, _, none⟩) hbx]; exact hatx
      have q1 : wr.cell? ⟨bY, offY + k, none⟩ = some (.int .u64 ((ys.getD k 0 : Nat) : Int)) := by rw [hb.cell (p := ⟨_, _, none⟩) hbY]; exact hatY
      have HSK := Lib.hid (HSO.out k)
      have l1 := HXL.out k
      have l2 := HYL.out k
      have l3 := HOL.out k
      obtain ⟨X, hX⟩ : ∃ X, X = xs.getD k 0 := ⟨_, rfl⟩
      obtain ⟨Y, hY⟩ : ∃ Y, Y = ys.getD k 0 := ⟨_, rfl⟩
      rw [← hX] at q0 l1 HSK
      rw [← hY] at q1 l2 HSK
      obtain ⟨A, hA⟩ : ∃ A, A = dfOr xs ys k := ⟨_, rfl⟩
      rw [← hA] at l3 HSK ⊢
      have l4 : X ^^^ Y < 2 ^ R := Nat.xor_lt_two_pow l1 l2
      have e1 : bits .xor .u64 (X : Int) (Y : Int) = ((X ^^^ Y : Nat) : Int) := (bits_u64 X Y (by omega) (by omega)).2.2
      obtain ⟨Z, hZ⟩ : ∃ Z, Z = X ^^^ Y := ⟨_, rfl⟩
      rw [← hZ] at e1 l4 HSK
      have e2 : bits .or .u64 (A : Int) (Z : Int) = ((A ||| Z : Nat) : Int) := (bits_u64 A Z (by omega) (by omega)).2.1
      rw [← HSK.out] at e2
      clear hX hY hA hZ hatx hatY hkx hky l1 l2 l3 l4
      go_wp2_with fail
      go_quiet (fail)
      go_wp2
      go_roundw
      case rel => exact ⟨k + 1, by omega, by go_num, rfl, bl_drewN hb⟩
      case measure => simp [intOf]; omega
    · have hkn : Hid (k = n) := Lib.hid (by omega)
      rw [hkn.out]
      have hkI : ¬ (k : Int) < n := by omega
      have l3 := HOL.out n
      obtain ⟨A, hA⟩ : ∃ A, A = dfOr xs ys n := ⟨_, rfl⟩
      rw [← hA] at HOB l3 ⊢
      have HB := Lib.hid hb
      clear hA hb
      rcases Nat.eq_zero_or_pos A with h0 | h0
      · have gz : ((A : Int) == 0) = true := by rw [h0]; rfl
        have HR : Hid (res = (0, 6)) := Lib.hid (HN.out (fun r hr => by rw [← HOB.out, h0, Nat.zero_testBit]))
        clear h0 l3
        go_wp2
        go_ret2
        exact ⟨by rw [HR.out]; rfl, HB.out⟩
      · have gz : ((A : Int) == 0) = false := by simp; omega
        obtain ⟨r0, hr0, hb0, hl0⟩ := least_bit A R l3 (by omega)
        have HR : Hid (res = ((r0 : Int), 0)) := Lib.hid (HY.out r0 hr0 (fun j hj => by rw [← HOB.out]; exact hl0 j hj) (by rw [← HOB.out]; exact hb0))
        have HL0 := Lib.hid hl0
        have HB0 := Lib.hid hb0
        have HBV := Lib.hid (fun i => bitu_val A i (by omega))
        have hA0 : (0 : Int) ≤ A := by omega
        clear hl0 hb0 h0 l3 hkI
        obtain ⟨W1, hW1⟩ : ∃ W1, W1 = wr := ⟨_, rfl⟩
        rw [← hW1] at HB ⊢
        clear hW1
        go_wp2
        go_loopw [8] (fun rx wi => ∃ r : Nat, r ≤ r0 ∧ rx = .int .i64 r ∧ wi = W1) (fun rx _ => r0 - (intOf rx).toNat)
        case atStart => exact ⟨0, by omega, rfl, rfl⟩
        case round =>
          obtain ⟨r, hr, rfl, rfl⟩ := hrel
          have hbv := HBV.out r
          have hmin : min r 64 = r := Nat.min_eq_left (by omega)
          by_cases hlr : r < r0
          · rw [HL0.out r hlr, if_neg Bool.false_ne_true] at hbv
            go_wp2
            go_roundw
            case rel => exact ⟨r + 1, by omega, by go_num, by trivial⟩
            case measure => simp [intOf]; omega
          · have hre : Hid (r = r0) := Lib.hid (by omega)
            rw [hre.out] at hbv hmin ⊢
            rw [HB0.out, if_pos rfl] at hbv
            go_wp2
            go_ret2
            exact ⟨by rw [HR.out]; rfl, HB.out⟩
theorem firstDifferent_any (xs ys : List Nat) (nn n : Nat) (a a' : Option Addr) (cap cap' : Nat) (w : World) (hn : n ≤ 64) (hnn : nn ≤ 6) (hx : xs.length = n) (hy : ys.length = n) (hxl : ltAll xs 18446744073709551616) (hyl : ltAll ys 18446744073709551616)
    (h : SlAt w.heap.size w a (flat U64_cells (xs.map (fun (n : Nat) => (n : Int))))) (h' : SlAt w.heap.size w a' (flat U64_cells (ys.map (fun (n : Nat) => (n : Int))))) :
    Calls Tryz.prog 87 #[.slice a n cap, .slice a' n cap', .int .i64 nn] w fun e w' => e = .returned (.tuple #[.int .i64 (dfVal (dfP xs ys n) (2 ^ nn)).1, .int .i64 (dfVal (dfP xs ys n) (2 ^ nn)).2]) ∧ Below w.heap.size w w' := by
  have hR64 : 2 ^ nn ≤ 64 := pow_mono2 (b := 6) hnn
  have HRO := Lib.hid (fun w1 => rows_any nn (by omega) w1)
  have HXL := Lib.hid hxl
  have HYL := Lib.hid hyl
  have HXN : Hid ((xs.map (fun (n : Nat) => (n : Int))).length = n) := Lib.hid (by rw [List.length_map, hx])
  have HYN : Hid ((ys.map (fun (n : Nat) => (n : Int))).length = n) := Lib.hid (by rw [List.length_map, hy])
  have HXG := Lib.hid (fun i hi => castN_get xs i hi)
  have HYG := Lib.hid (fun i hi => castN_get ys i hi)
  have HXE := Lib.hid hx
  have HYE := Lib.hid hy
  have HPS := Lib.hid (fun i r => dfP_succ xs ys i r)
  have HPM : Hid (∀ r i, i < n → ((xs.getD i 0).testBit r != (ys.getD i 0).testBit r) = true → dfP xs ys n r = true) := Lib.hid (fun r i hi hb => by
    unfold dfP
    rw [List.any_eq_true]
    exact ⟨i, List.mem_range.2 hi, hb⟩)
  have HP0 : Hid (∀ r, dfP xs ys 0 r = false) := Lib.hid (fun r => rfl)
  obtain ⟨R, hRR⟩ : ∃ R, R = 2 ^ nn := ⟨_, rfl⟩
  rw [← hRR] at HRO hR64 ⊢
  have HN := Lib.hid (dfVal_none (dfP xs ys n) R)
  have HY := Lib.hid (fun r => dfVal_some (dfP xs ys n) R r)
  obtain ⟨res, hres⟩ : ∃ res, res = dfVal (dfP xs ys n) R := ⟨_, rfl⟩
  rw [← hres] at HN ⊢
  simp only [← hres] at HY
  clear hres hx hy hxl hyl hRR
  go_enter Tryz.func87, Tryz.ntmps87
  go_wp2_with (go_at_call 85; refine (HRO.out _).mono ?_; rintro e w' ⟨rfl, rfl⟩)
  go_loopw [12] (fun rx wr => ∃ r : Nat, r ≤ R ∧ rx = .int .i64 r ∧ Hid (∀ j, j < r → dfP xs ys n j = false) ∧ Below w.heap.size w wr) (fun rx _ => R - (intOf rx).toNat)
  case atStart => exact ⟨0, by omega, rfl, Lib.hid (fun j hj => absurd hj (Nat.not_lt_zero _)), Below.refl _ _⟩
  case round =>
    obtain ⟨r, hr, rfl, HF, hb⟩ := hrel
    by_cases hlt : r < R
    · have hrI : (r : Int) < R := by omega
      obtain ⟨W1, hW1⟩ : ∃ W1, W1 = wr := ⟨_, rfl⟩
      subst hW1
      have HB := Lib.hid hb
      clear hb
      go_wp2
      go_loopw [17] (fun ix wi => ∃ i : Nat, i ≤ n ∧ ix = .int .i64 i ∧ Hid (dfP xs ys i r = false) ∧ Below w.heap.size w wi) (fun ix _ => n - (intOf ix).toNat)
      case atStart => exact ⟨0, by omega, rfl, Lib.hid (HP0.out r), HB.out⟩
      case round =>
        obtain ⟨i, hi, rfl, HI, hb⟩ := hrel
        by_cases hlti : i < n
        · have hiI : (i : Int) < n := by omega
          have hkx : i < (xs.map (fun (n : Nat) => (n : Int))).length := by rw [HXN.out]; exact hlti
          have hky : i < (ys.map (fun (n : Nat) => (n : Int))).length := by rw [HYN.out]; exact hlti
          obtain ⟨bx, offx, rfl, hbx, hatx⟩ := u64s_get h hkx
          obtain ⟨bY, offY, rfl, hbY, hatY⟩ := u64s_get h' hky
          unfold U64At at hatx hatY
          rw [Nat.mul_one, HXG.out i hkx (by rw [HXE.out]; exact hlti)] at hatx
          rw [Nat.mul_one, HYG.out i hky (by rw [HYE.out]; exact hlti)] at hatY
          have q0 : wr.cell? ⟨bx, offx + i, none⟩ = some (.int .u64 ((xs.getD i 0 : Nat) : Int)) := by rw [hb.cell (p := ⟨_, _, none⟩) hbx]; exact hatx
          have q1 : wr.cell? ⟨bY, offY + i, none⟩ = some (.int .u64 ((ys.getD i 0 : Nat) : Int)) := by rw [hb.cell (p := ⟨_, _, none⟩) hbY]; exact hatY
          have l1 := HXL.out i
          have l2 := HYL.out i
          have HSK := Lib.hid (HPS.out i r)
          have HYS := Lib.hid (HPM.out r i hlti)
          obtain ⟨X, hX⟩ : ∃ X, X = xs.getD i 0 := ⟨_, rfl⟩
          obtain ⟨Y, hY⟩ : ∃ Y, Y = ys.getD i 0 := ⟨_, rfl⟩
          rw [← hX] at q0 l1 HSK HYS
          rw [← hY] at q1 l2 HSK HYS
          have HB1 := Lib.hid hb
          clear hX hY hatx hatY hkx hky hb
          rcases Bool.eq_false_or_eq_true (X.testBit r) with gx | gx <;> rcases Bool.eq_false_or_eq_true (Y.testBit r) with gy | gy
          · have HI2 : Hid (dfP xs ys (i + 1) r = false) := Lib.hid (by rw [HSK.out, HI.out, gx, gy]; rfl)
            have ge : (!(X.testBit r == Y.testBit r)) = false := by rw [gx, gy]; rfl
            clear gx gy
            go_wp2_with fail
            go_quiet ((go_at_call 126; exact quiet_same (bitU_any _ _ (by assumption) (by omega) _)))
            go_wp2
            go_roundw
            case rel => exact ⟨i + 1, by omega, by go_num, HI2, bl_drewN HB1.out⟩
            case measure => simp [intOf]; omega
          · have HR : Hid (res = ((r : Int), 0)) := Lib.hid (HY.out r hlt HF.out (HYS.out (by rw [gx, gy]; rfl)))
            have ge : (!(X.testBit r == Y.testBit r)) = true := by rw [gx, gy]; rfl
            clear gx gy
            go_wp2_with fail
            go_quiet ((go_at_call 126; exact quiet_same (bitU_any _ _ (by assumption) (by omega) _)))
            go_wp2
            go_ret2
            exact ⟨by rw [HR.out]; rfl, bl_drewN HB1.out⟩
          · have HR : Hid (res = ((r : Int), 0)) := Lib.hid (HY.out r hlt HF.out (HYS.out (by rw [gx, gy]; rfl)))
            have ge : (!(X.testBit r == Y.testBit r)) = true := by rw [gx, gy]; rfl
            clear gx gy
            go_wp2_with fail
            go_quiet ((go_at_call 126; exact quiet_same (bitU_any _ _ (by assumption) (by omega) _)))
            go_wp2
            go_ret2
            exact ⟨by rw [HR.out]; rfl, bl_drewN HB1.out⟩
          · have HI2 : Hid (dfP xs ys (i + 1) r = false) := Lib.hid (by rw [HSK.out, HI.out, gx, gy]; rfl)
            have ge : (!(X.testBit r == Y.testBit r)) = false := by rw [gx, gy]; rfl
            clear gx gy
            go_wp2_with fail
            go_quiet ((go_at_call 126; exact quiet_same (bitU_any _ _ (by assumption) (by omega) _)))
            go_wp2
            go_roundw
            case rel => exact ⟨i + 1, by omega, by go_num, HI2, bl_drewN HB1.out⟩
            case measure => simp [intOf]; omega
        · have hin : Hid (i = n) := Lib.hid (by omega)
          rw [hin.out] at HI
          have hiI : ¬ (i : Int) < n := by omega
          go_wp2
          go_roundw
          case rel => exact ⟨r + 1, by omega, by go_num, Lib.hid (fun j hj => by rcases Nat.lt_succ_iff_lt_or_eq.1 hj with h | h; exact HF.out j h; rw [h]; exact HI.out), hb⟩
          case measure => simp [intOf]; omega
    · have hre : Hid (r = R) := Lib.hid (by omega)
      have HR : Hid (res = (0, 6)) := Lib.hid (HN.out (by rw [← hre.out]; exact HF.out))
      have hrI : ¬ (r : Int) < R := by omega
      go_wp2
      go_ret2
      exact ⟨by rw [HR.out]; rfl, hb⟩
end Go.Proofs.YtdhjhnbmecbaaaaGreat
/- Contracts: DifferAt (both). -/
namespace Go.Proofs.YtdhjhnbmecbaaaaGreat
open Go.RowKit
set_option linter.unusedVariables false
set_option linter.unusedSimpArgs false
set_option maxHeartbeats 400000
set_option maxRecDepth 100000
def daSame (ma mb : Mc) : Bool := decide (ma.ins.length = mb.ins.length ∧ ma.outs.length = mb.outs.length)
noncomputable def daVal (ma mb : Mc) : Int × Int := if vMc ma = true ∧ vMc mb = true then (if daSame ma mb = true then dfVal (dfP (mTabs ma) (mTabs mb) ma.outs.length) (mRows ma) else (0, 4)) else (0, 1)
theorem mTabs_len (m : Mc) : (mTabs m).length = m.outs.length := by simp [mTabs]
theorem mTabs_lt (m : Mc) : ltAll (mTabs m) (2 ^ mRows m) := by
  intro i
  by_cases h : i < m.outs.length
  · have h1 : (mTabs m).getD i 0 = tabTo (fun r => mOut m r (zeros m.ins.length)) i (mRows m) := by
      rw [List.getD_eq_getElem?_getD]
      simp [mTabs, h]
    rw [h1]
    exact tabTo_lt _ _ _
  · have h1 : (mTabs m).getD i 0 = 0 := by
      rw [List.getD_eq_getElem?_getD, List.getElem?_eq_none (by rw [mTabs_len]; omega)]; rfl
    rw [h1]
    exact Nat.two_pow_pos _
theorem ltAll_mono {xs : List Nat} {a b : Nat} (h : ltAll xs a) (hab : a ≤ b) : ltAll xs b := fun i => Nat.lt_of_lt_of_le (h i) hab
theorem neq_len {a b : Nat} (h : a ≠ b) : (((a : Int) != (b : Int)) = true) := by rw [bne_iff_ne]; omega
theorem eq_len {a b : Nat} (h : a = b) : (((a : Int) != (b : Int)) = false) := by rw [h]; simp
set_option maxHeartbeats 1600000 in
theorem specDifferAt_any (ma mb : Mc) (va vb : Value) (w : World) (ha : MV w va ma) (hb : MV w vb mb) (hoka : ma.ok) (hokb : mb.ok) (hna : ma.bd.ps.length ≤ 10000000) (hna1 : ma.ins.length ≤ 10000000) (hna2 : ma.outs.length ≤ 10000000) (hnb : mb.bd.ps.length ≤ 10000000) (hnb1 : mb.ins.length ≤ 10000000) (hnb2 : mb.outs.length ≤ 10000000) :
    Calls Tryz.prog 37 #[va, vb] w fun e w' => e = .returned (.tuple #[.int .i64 (daVal ma mb).1, .int .i64 (daVal ma mb).2]) ∧ Below w.heap.size w w' := by
  obtain ⟨sa, sia, soa, rfl, h0a, ⟨aia, capia, rfl, h1a⟩, ⟨aoa, capoa, rfl, h2a⟩⟩ := ha
  obtain ⟨sb, sib, sob, rfl, h0b, ⟨aib, capib, rfl, h1b⟩, ⟨aob, capob, rfl, h2b⟩⟩ := hb
  obtain ⟨wA, hwA⟩ : ∃ wA, wA = w.alloc (.cells #[.int .i8 ma.bd.wd, .int .i8 ma.bd.hg, sa, .slice aia ma.ins.length capia, .slice aoa ma.outs.length capoa] 40) := ⟨_, rfl⟩
  have HBA := Lib.hid (show Below w.heap.size w wA by rw [hwA]; exact bl_alloc (Below.refl _ _))
  have HMA := Lib.hid (show MP wA w.heap.size ma by rw [hwA]; exact MP.new (m := ma) (w := w) h0a ⟨aia, capia, rfl, h1a⟩ ⟨aoa, capoa, rfl, h2a⟩ 40)
  have HXA := Lib.hid (show BX5 wA w.heap.size _ _ _ _ _ by rw [hwA]; exact BX5.new w (.int .i8 ma.bd.wd) (.int .i8 ma.bd.hg) sa (.slice aia ma.ins.length capia) (.slice aoa ma.outs.length capoa) 40)
  have hzA : wA.heap.size = w.heap.size + 1 := by rw [hwA]; simp
  obtain ⟨wB, hwB⟩ : ∃ wB, wB = wA.alloc (.cells #[.int .i8 mb.bd.wd, .int .i8 mb.bd.hg, sb, .slice aib mb.ins.length capib, .slice aob mb.outs.length capob] 40) := ⟨_, rfl⟩
  have HBB := Lib.hid (show Below wA.heap.size wA wB by rw [hwB]; exact bl_alloc (Below.refl _ _))
  have HMB := Lib.hid (show MP wB wA.heap.size mb by rw [hwB]; exact MP.new (m := mb) (w := wA) (h0b.step HBA.out) (RV.step ⟨aib, capib, rfl, h1b⟩ HBA.out) (RV.step ⟨aob, capob, rfl, h2b⟩ HBA.out) 40)
  have HXB := Lib.hid (show BX5 wB wA.heap.size _ _ _ _ _ by rw [hwB]; exact BX5.new wA (.int .i8 mb.bd.wd) (.int .i8 mb.bd.hg) sb (.slice aib mb.ins.length capib) (.slice aob mb.outs.length capob) 40)
  have HWE : Hid ((w.alloc (.cells #[.int .i8 ma.bd.wd, .int .i8 ma.bd.hg, sa, .slice aia ma.ins.length capia, .slice aoa ma.outs.length capoa] 40)).alloc (.cells #[.int .i8 mb.bd.wd, .int .i8 mb.bd.hg, sb, .slice aib mb.ins.length capib, .slice aob mb.outs.length capob] 40) = wB) := Lib.hid (by rw [hwB, hwA])
  rw [hzA] at HMB HXB
  have HMA2 := Lib.hid (HMA.out.step HBB.out)
  have HXA2 := Lib.hid (HXA.out.step HBB.out)
  have HBW := Lib.hid (bl_trans HBA.out HBB.out)
  have hzB : w.heap.size + 1 < wB.heap.size := by rw [hwB]; simp [hzA]
  clear hwA hwB h0a h1a h2a h0b h1b h2b HBA HMA HXA HBB
  have HOA := Lib.hid (fun w1 (hb : Below wB.heap.size wB w1) => l03Ok_any w.heap.size ma w1 (HMA2.out.step hb) hoka hna hna1 hna2)
  have HOB := Lib.hid (fun w1 (hb : Below wB.heap.size wB w1) => l03Ok_any (w.heap.size + 1) mb w1 (HMB.out.step hb) hokb hnb hnb1 hnb2)
  obtain ⟨res, hres⟩ : ∃ res, res = daVal ma mb := ⟨_, rfl⟩
  rw [← hres]
  rcases Bool.eq_false_or_eq_true (vMc ma) with ga | ga
  · rcases Bool.eq_false_or_eq_true (vMc mb) with gb | gb
    · rw [ga] at HOA
      rw [gb] at HOB
      by_cases hl : ma.ins.length = mb.ins.length
      · by_cases ho : ma.outs.length = mb.outs.length
        · obtain ⟨-, -, hi1, hi6, ho1, ho8, -⟩ := vMc_parts ma ga
          have hR : Hid (res = dfVal (dfP (mTabs ma) (mTabs mb) ma.outs.length) (mRows ma)) := Lib.hid (by rw [hres]; unfold daVal; rw [if_pos ⟨ga, gb⟩, if_pos (by simp [daSame, hl, ho])])
          have g1 := eq_len hl
          have g2 := eq_len ho
          have HTA := Lib.hid (fun w1 (hb : Below wB.heap.size wB w1) => l03Tables_any w.heap.size ma w1 (HMA2.out.step hb) ga hoka)
          have HTB := Lib.hid (fun w1 (hb : Below wB.heap.size wB w1) => l03Tables_any (w.heap.size + 1) mb w1 (HMB.out.step hb) gb hokb)
          have hR64 := mRows_le ma hi6
          have HLE := Lib.hid (fun w1 a a' cap cap' (h1 : SlAt w1.heap.size w1 a (flat U64_cells (mTabI ma))) (h2 : SlAt w1.heap.size w1 a' (flat U64_cells (mTabI mb))) => l03Least_any (mTabs ma) (mTabs mb) (mRows ma) ma.outs.length a a' cap cap' w1 (by omega) hR64 (mTabs_len ma) (by rw [mTabs_len]; omega) (mTabs_lt ma) (by have h9 := mTabs_lt mb; unfold mRows at h9 ⊢; rw [hl]; exact h9) h1 h2)
          rw [← hR.out] at HLE
          have HO := Lib.hid ho
          clear hres hl ho ga gb hR
          go_enter Tryz.func37, Tryz.ntmps37
          go_wp2_with fail
          rw [HWE.out]
          refine (HOA.out _ (Below.refl _ _)).mono ?_
          rintro e w1 ⟨rfl, hb1⟩
          have HB1 := Lib.hid hb1
          clear hb1
          go_wp2_with fail
          refine (HOB.out _ HB1.out).mono ?_
          rintro e w2 ⟨rfl, hb2⟩
          have HB2 := Lib.hid (bl_trans HB1.out hb2)
          obtain ⟨-, -, -, -, x3, x4⟩ := HXA2.out.step HB2.out
          obtain ⟨-, -, -, -, y3, y4⟩ := HXB.out.step HB2.out
          clear hb2
          go_wp2_with fail
          refine (HTA.out _ HB2.out).mono ?_
          rintro e w3 ⟨v3, rfl, hown3, hb3⟩
          obtain ⟨a3, cap3, rfl, hsl3, -, -⟩ := own_at hown3
          have HB3 := Lib.hid (bl_trans HB2.out hb3)
          have HS3 := Lib.hid hsl3
          clear hb3 hown3 hsl3 x3 x4 y3 y4
          go_wp2_with fail
          refine (HTB.out _ HB3.out).mono ?_
          rintro e w4 ⟨v4, rfl, hown4, hb4⟩
          obtain ⟨a4, cap4, rfl, hsl4, -, -⟩ := own_at hown4
          have HB4 := Lib.hid (bl_trans HB3.out hb4)
          have HS34 := Lib.hid ((HS3.out.below hb4 (Nat.le_refl _)).mono hb4.size)
          rw [← HO.out]
          have HLC := Lib.hid (HLE.out w4 a3 a4 cap3 cap4 HS34.out hsl4)
          clear hb4 hown4 hsl4
          go_wp2_with fail
          refine HLC.out.mono ?_
          rintro e w5 ⟨rfl, hb5⟩
          go_wp2
          go_ret2
          exact ⟨rfl, bl_trans HBW.out (bl_trans HB4.out hb5)⟩
        · have hR : Hid (res = (0, 4)) := Lib.hid (by rw [hres]; unfold daVal; rw [if_pos ⟨ga, gb⟩, if_neg (by simp [daSame, ho])])
          have g1 := eq_len hl
          have g2 := neq_len ho
          rw [hR.out]
          clear hres hl ho ga gb
          go_enter Tryz.func37, Tryz.ntmps37
          go_wp2_with fail
          rw [HWE.out]
          refine (HOA.out _ (Below.refl _ _)).mono ?_
          rintro e w1 ⟨rfl, hb1⟩
          have HB1 := Lib.hid hb1
          clear hb1
          go_wp2_with fail
          refine (HOB.out _ HB1.out).mono ?_
          rintro e w2 ⟨rfl, hb2⟩
          have HB2 := Lib.hid (bl_trans HB1.out hb2)
          obtain ⟨-, -, -, -, x3, x4⟩ := HXA2.out.step HB2.out
          obtain ⟨-, -, -, -, y3, y4⟩ := HXB.out.step HB2.out
          clear hb2
          go_wp2
          go_ret2
          exact ⟨rfl, bl_trans HBW.out HB2.out⟩
      · have hR : Hid (res = (0, 4)) := Lib.hid (by rw [hres]; unfold daVal; rw [if_pos ⟨ga, gb⟩, if_neg (by simp [daSame, hl])])
        have g1 := neq_len hl
        rw [hR.out]
        clear hres hl ga gb
        go_enter Tryz.func37, Tryz.ntmps37
        go_wp2_with fail
        rw [HWE.out]
        refine (HOA.out _ (Below.refl _ _)).mono ?_
        rintro e w1 ⟨rfl, hb1⟩
        have HB1 := Lib.hid hb1
        clear hb1
        go_wp2_with fail
        refine (HOB.out _ HB1.out).mono ?_
        rintro e w2 ⟨rfl, hb2⟩
        have HB2 := Lib.hid (bl_trans HB1.out hb2)
        obtain ⟨-, -, -, -, x3, x4⟩ := HXA2.out.step HB2.out
        obtain ⟨-, -, -, -, y3, y4⟩ := HXB.out.step HB2.out
        clear hb2
        go_wp2
        go_ret2
        exact ⟨rfl, bl_trans HBW.out HB2.out⟩
    · have hR : Hid (res = (0, 1)) := Lib.hid (by rw [hres]; unfold daVal; rw [if_neg (by simp [gb])])
      rw [ga] at HOA
      rw [gb] at HOB
      rw [hR.out]
      clear hres ga gb
      go_enter Tryz.func37, Tryz.ntmps37
      go_wp2_with fail
      rw [HWE.out]
      refine (HOA.out _ (Below.refl _ _)).mono ?_
      rintro e w1 ⟨rfl, hb1⟩
      have HB1 := Lib.hid hb1
      clear hb1
      go_wp2_with fail
      refine (HOB.out _ HB1.out).mono ?_
      rintro e w2 ⟨rfl, hb2⟩
      have HB2 := Lib.hid (bl_trans HB1.out hb2)
      clear hb2
      go_wp2
      go_ret2
      exact ⟨rfl, bl_trans HBW.out HB2.out⟩
  · have hR : Hid (res = (0, 1)) := Lib.hid (by rw [hres]; unfold daVal; rw [if_neg (by simp [ga])])
    rw [ga] at HOA
    rw [hR.out]
    clear hres ga
    go_enter Tryz.func37, Tryz.ntmps37
    go_wp2_with fail
    rw [HWE.out]
    refine (HOA.out _ (Below.refl _ _)).mono ?_
    rintro e w1 ⟨rfl, hb1⟩
    have HB1 := Lib.hid hb1
    clear hb1
    go_wp2
    go_ret2
    exact ⟨rfl, bl_trans HBW.out HB1.out⟩
end Go.Proofs.YtdhjhnbmecbaaaaGreat
/- Contracts: DifferAt (the program). -/
namespace Go.Proofs.YtdhjhnbmecbaaaaGreat
open Go.RowKit
set_option linter.unusedVariables false
set_option linter.unusedSimpArgs false
set_option maxHeartbeats 400000
set_option maxRecDepth 100000
set_option maxHeartbeats 1600000 in
theorem differAt_any (ma mb : Mc) (va vb : Value) (w : World) (ha : MVc w va ma) (hb : MVc w vb mb) (hoka : ma.ok) (hokb : mb.ok) (hna : ma.bd.ps.length ≤ 10000000) (hna1 : ma.ins.length ≤ 10000000) (hna2 : ma.outs.length ≤ 10000000) (hnb : mb.bd.ps.length ≤ 10000000) (hnb1 : mb.ins.length ≤ 10000000) (hnb2 : mb.outs.length ≤ 10000000) :
    Calls Tryz.prog 38 #[va, vb] w fun e w' => e = .returned (.tuple #[.int .i64 (daVal ma mb).1, .int .i64 (daVal ma mb).2]) ∧ Below w.heap.size w w' := by
  have HVA := Lib.hid (fun w1 (hb1 : Below w.heap.size w w1) => validMachine_any ma va w1 (ha.step hb1) hoka hna hna1 hna2)
  have HVB := Lib.hid (fun w1 (hb1 : Below w.heap.size w w1) => validMachine_any mb vb w1 (hb.step hb1) hokb hnb hnb1 hnb2)
  obtain ⟨paa, capp, aia, capia, aoa, capoa, rfl, hcapa, hpsa, hinsa, houtsa⟩ := ha
  obtain ⟨pab, cappb, aib, capib, aob, capob, rfl, hcapb, hpsb, hinsb, houtsb⟩ := hb
  obtain ⟨wA, hwA⟩ : ∃ wA, wA = w.alloc (.cells #[.int .i8 ma.bd.wd, .int .i8 ma.bd.hg, .slice paa ma.bd.ps.length capp, .slice aia ma.ins.length capia, .slice aoa ma.outs.length capoa] 40) := ⟨_, rfl⟩
  have HBA := Lib.hid (show Below w.heap.size w wA by rw [hwA]; exact bl_alloc (Below.refl _ _))
  have HMA := Lib.hid (show MP wA w.heap.size ma by rw [hwA]; exact MP.new (m := ma) (w := w) ⟨paa, capp, rfl, hpsa⟩ ⟨aia, capia, rfl, hinsa⟩ ⟨aoa, capoa, rfl, houtsa⟩ 40)
  have HXA := Lib.hid (show BX5 wA w.heap.size _ _ _ _ _ by rw [hwA]; exact BX5.new w (.int .i8 ma.bd.wd) (.int .i8 ma.bd.hg) (.slice paa ma.bd.ps.length capp) (.slice aia ma.ins.length capia) (.slice aoa ma.outs.length capoa) 40)
  have hzA : wA.heap.size = w.heap.size + 1 := by rw [hwA]; simp
  obtain ⟨wB, hwB⟩ : ∃ wB, wB = wA.alloc (.cells #[.int .i8 mb.bd.wd, .int .i8 mb.bd.hg, .slice pab mb.bd.ps.length cappb, .slice aib mb.ins.length capib, .slice aob mb.outs.length capob] 40) := ⟨_, rfl⟩
  have HBB := Lib.hid (show Below wA.heap.size wA wB by rw [hwB]; exact bl_alloc (Below.refl _ _))
  have HMB := Lib.hid (show MP wB wA.heap.size mb by rw [hwB]; exact MP.new (m := mb) (w := wA) (PV.step ⟨pab, cappb, rfl, hpsb⟩ HBA.out) (RV.step ⟨aib, capib, rfl, hinsb⟩ HBA.out) (RV.step ⟨aob, capob, rfl, houtsb⟩ HBA.out) 40)
  have HXB := Lib.hid (show BX5 wB wA.heap.size _ _ _ _ _ by rw [hwB]; exact BX5.new wA (.int .i8 mb.bd.wd) (.int .i8 mb.bd.hg) (.slice pab mb.bd.ps.length cappb) (.slice aib mb.ins.length capib) (.slice aob mb.outs.length capob) 40)
  have HWE : Hid ((w.alloc (.cells #[.int .i8 ma.bd.wd, .int .i8 ma.bd.hg, .slice paa ma.bd.ps.length capp, .slice aia ma.ins.length capia, .slice aoa ma.outs.length capoa] 40)).alloc (.cells #[.int .i8 mb.bd.wd, .int .i8 mb.bd.hg, .slice pab mb.bd.ps.length cappb, .slice aib mb.ins.length capib, .slice aob mb.outs.length capob] 40) = wB) := Lib.hid (by rw [hwB, hwA])
  rw [hzA] at HMB HXB
  have HMA2 := Lib.hid (HMA.out.step HBB.out)
  have HXA2 := Lib.hid (HXA.out.step HBB.out)
  have HBW := Lib.hid (bl_trans HBA.out HBB.out)
  have hzB : w.heap.size + 1 < wB.heap.size := by rw [hwB]; simp [hzA]
  clear hwA hwB hpsa hinsa houtsa hpsb hinsb houtsb HBA HMA HXA HBB
  have HOA := Lib.hid (fun w1 (hb : Below wB.heap.size wB w1) => HVA.out w1 (bl_trans HBW.out hb))
  have HOB := Lib.hid (fun w1 (hb : Below wB.heap.size wB w1) => HVB.out w1 (bl_trans HBW.out hb))
  obtain ⟨res, hres⟩ : ∃ res, res = daVal ma mb := ⟨_, rfl⟩
  rw [← hres]
  rcases Bool.eq_false_or_eq_true (vMc ma) with ga | ga
  · rcases Bool.eq_false_or_eq_true (vMc mb) with gb | gb
    · rw [ga] at HOA
      rw [gb] at HOB
      by_cases hl : ma.ins.length = mb.ins.length
      · by_cases ho : ma.outs.length = mb.outs.length
        · obtain ⟨-, -, hi1, hi6, ho1, ho8, -⟩ := vMc_parts ma ga
          have hR : Hid (res = dfVal (dfP (mTabs ma) (mTabs mb) ma.outs.length) (mRows ma)) := Lib.hid (by rw [hres]; unfold daVal; rw [if_pos ⟨ga, gb⟩, if_pos (by simp [daSame, hl, ho])])
          have g1 := eq_len hl
          have g2 := eq_len ho
          have HWA := Lib.hid (fun w1 (hb : Below wB.heap.size wB w1) => worksOf_any w.heap.size ma w1 (HMA2.out.step hb) ga hoka)
          have HWB := Lib.hid (fun w1 (hb : Below wB.heap.size wB w1) => worksOf_any (w.heap.size + 1) mb w1 (HMB.out.step hb) gb hokb)
          have HTA := Lib.hid (fun w1 g (hw : WkAt w1 g w.heap.size ma) => wtables_any g w.heap.size ma w1 hw ga hoka)
          have HTB := Lib.hid (fun w1 g (hw : WkAt w1 g (w.heap.size + 1) mb) => wtables_any g (w.heap.size + 1) mb w1 hw gb hokb)
          have hR64 := mRows_le ma hi6
          have HLE := Lib.hid (fun w1 a a' cap cap' (h1 : SlAt w1.heap.size w1 a (flat U64_cells (mTabI ma))) (h2 : SlAt w1.heap.size w1 a' (flat U64_cells (mTabI mb))) => firstDifferent_any (mTabs ma) (mTabs mb) ma.ins.length ma.outs.length a a' cap cap' w1 (by omega) hi6 (mTabs_len ma) (by rw [mTabs_len]; omega) (ltAll_mono (mTabs_lt ma) (pow_mono2 (b := 64) hR64)) (ltAll_mono (mTabs_lt mb) (by have h9 := hR64; unfold mRows at h9 ⊢; rw [← hl]; exact pow_mono2 (b := 64) h9)) h1 h2)
          have HRE : Hid (2 ^ ma.ins.length = mRows ma) := Lib.hid rfl
          rw [HRE.out, ← hR.out] at HLE
          have HO := Lib.hid ho
          obtain ⟨bA, hbA⟩ : ∃ bA, bA = w.heap.size := ⟨_, rfl⟩
          obtain ⟨bB, hbB⟩ : ∃ bB, bB = w.heap.size + 1 := ⟨_, rfl⟩
          rw [← hbA] at HWA HTA HXA2
          rw [← hbB] at HWB HTB HXB
          have HbA := Lib.hid hbA
          have HbB := Lib.hid hbB
          clear hres hl ho ga gb hR HRE hbA hbB
          go_enter Tryz.func38, Tryz.ntmps38
          go_wp2_with fail
          rw [HWE.out]
          refine (HOA.out _ (Below.refl _ _)).mono ?_
          rintro e w1 ⟨rfl, hb1⟩
          have HB1 := Lib.hid hb1
          have xb := HXB.out.step hb1
          rw [HbB.out] at xb
          obtain ⟨-, y0, y1, y2, y3, y4⟩ := xb
          clear hb1
          go_wp2_with fail
          refine (HOB.out _ HB1.out).mono ?_
          rintro e w2 ⟨rfl, hb2⟩
          have HB2 := Lib.hid (bl_trans HB1.out hb2)
          clear hb2 y0 y1 y2 y3 y4
          have xa := HXA2.out.step HB2.out
          have xb := HXB.out.step HB2.out
          rw [HbA.out] at xa
          rw [HbB.out] at xb
          obtain ⟨-, -, -, -, x3, x4⟩ := xa
          obtain ⟨-, -, -, -, y3, y4⟩ := xb
          go_upto_region 5 with fail
          rw [← HbB.out, ← HbA.out]
          rw [← HbA.out] at x3
          have hlA : bA < w2.heap.size := by have := HB2.out.size; have := HbA.out; omega
          clear x4 y3 y4
          go_region_held3 (fun w' => Below w2.heap.size w2 w' ∧ ∀ b o, b < w2.heap.size → w'.cell? ⟨b, o, none⟩ = w2.cell? ⟨b, o, none⟩) ((refine ext_s ?_; exact (by repeat (first | with_reducible exact Below.refl _ _ | with_reducible assumption | with_reducible apply bl_drewN | with_reducible apply bl_drew | with_reducible apply bl_alloc | (with_reducible refine bl_set ?_ (by first | (simp; done) | (simp; omega)) _) | with_reducible refine bl_trans ?_ (by with_reducible assumption))))) (first | (go_at_call 66; with_reducible refine (HWA.out _ ?_).mono ?_; (exact bl_trans HB2.out (by repeat (first | with_reducible exact Below.refl _ _ | with_reducible assumption | with_reducible apply bl_drewN | with_reducible apply bl_drew | with_reducible apply bl_alloc | (with_reducible refine bl_set ?_ (by first | (simp; done) | (simp; omega)) _) | with_reducible refine bl_trans ?_ (by with_reducible assumption)))); rintro e wa ⟨ga, rfl, -, ka, ba⟩; have bA1 : Below w2.heap.size w2 wa := (by repeat (first | with_reducible exact Below.refl _ _ | with_reducible assumption | with_reducible apply bl_drewN | with_reducible apply bl_drew | with_reducible apply bl_alloc | (with_reducible refine bl_set ?_ (by first | (simp; done) | (simp; omega)) _) | with_reducible refine bl_trans ?_ (by with_reducible assumption))); obtain ⟨hca, hfa⟩ := bcell bA1) | (go_at_call 66; with_reducible refine (HWB.out _ ?_).mono ?_; (exact bl_trans HB2.out (by repeat (first | with_reducible exact Below.refl _ _ | with_reducible assumption | with_reducible apply bl_drewN | with_reducible apply bl_drew | with_reducible apply bl_alloc | (with_reducible refine bl_set ?_ (by first | (simp; done) | (simp; omega)) _) | with_reducible refine bl_trans ?_ (by with_reducible assumption)))); rintro e wc ⟨gb, rfl, -, kb, bc⟩; have bC1 : Below w2.heap.size w2 wc := (by repeat (first | with_reducible exact Below.refl _ _ | with_reducible assumption | with_reducible apply bl_drewN | with_reducible apply bl_drew | with_reducible apply bl_alloc | (with_reducible refine bl_set ?_ (by first | (simp; done) | (simp; omega)) _) | with_reducible refine bl_trans ?_ (by with_reducible assumption))); obtain ⟨hcc, hfc⟩ := bcell bC1) | (go_at_call 79; with_reducible refine (HTA.out _ _ ka).mono ?_; rintro e wd ⟨vd, rfl, od, bd⟩; obtain ⟨ad, capd, rfl, sd, -, -⟩ := own_at od; have bD1 : Below w2.heap.size w2 wd := (by repeat (first | with_reducible exact Below.refl _ _ | with_reducible assumption | with_reducible apply bl_drewN | with_reducible apply bl_drew | with_reducible apply bl_alloc | (with_reducible refine bl_set ?_ (by first | (simp; done) | (simp; omega)) _) | with_reducible refine bl_trans ?_ (by with_reducible assumption))); obtain ⟨hcd, hfd⟩ := bcell bD1) | (go_at_call 79; with_reducible refine (HTB.out _ _ kb).mono ?_; rintro e we ⟨ve, rfl, oe, be⟩; obtain ⟨ae, cape, rfl, se, -, -⟩ := own_at oe; have bE1 : Below w2.heap.size w2 we := (by repeat (first | with_reducible exact Below.refl _ _ | with_reducible assumption | with_reducible apply bl_drewN | with_reducible apply bl_drew | with_reducible apply bl_alloc | (with_reducible refine bl_set ?_ (by first | (simp; done) | (simp; omega)) _) | with_reducible refine bl_trans ?_ (by with_reducible assumption))); obtain ⟨hce, hfe⟩ := bcell bE1; have sde := (sd.below (bl_trans bc be) (Nat.le_refl _)).mono (bl_trans bc be).size; rw [← HO.out]) | (go_at_call 87; refine (HLE.out _ _ _ _ _ sde se).mono ?_; rintro e wf ⟨rfl, bf⟩))
          have bfin : Below w2.heap.size w2 wf := (by repeat (first | with_reducible exact Below.refl _ _ | with_reducible assumption | with_reducible apply bl_drewN | with_reducible apply bl_drew | with_reducible apply bl_alloc | (with_reducible refine bl_set ?_ (by first | (simp; done) | (simp; omega)) _) | with_reducible refine bl_trans ?_ (by with_reducible assumption)))
          go_wp2
          go_ret2
          exact ⟨rfl, bl_trans HBW.out (bl_trans HB2.out bfin)⟩
        · have hR : Hid (res = (0, 4)) := Lib.hid (by rw [hres]; unfold daVal; rw [if_pos ⟨ga, gb⟩, if_neg (by simp [daSame, ho])])
          have g1 := eq_len hl
          have g2 := neq_len ho
          rw [hR.out]
          clear hres hl ho ga gb
          go_enter Tryz.func38, Tryz.ntmps38
          go_wp2_with fail
          rw [HWE.out]
          refine (HOA.out _ (Below.refl _ _)).mono ?_
          rintro e w1 ⟨rfl, hb1⟩
          have HB1 := Lib.hid hb1
          obtain ⟨-, y0, y1, y2, y3, y4⟩ := HXB.out.step hb1
          clear hb1
          go_wp2_with fail
          refine (HOB.out _ HB1.out).mono ?_
          rintro e w2 ⟨rfl, hb2⟩
          have HB2 := Lib.hid (bl_trans HB1.out hb2)
          clear y0 y1 y2 y3 y4
          obtain ⟨-, -, -, -, x3, x4⟩ := HXA2.out.step HB2.out
          obtain ⟨-, -, -, -, y3, y4⟩ := HXB.out.step HB2.out
          clear hb2
          go_wp2
          go_ret2
          exact ⟨rfl, bl_trans HBW.out HB2.out⟩
      · have hR : Hid (res = (0, 4)) := Lib.hid (by rw [hres]; unfold daVal; rw [if_pos ⟨ga, gb⟩, if_neg (by simp [daSame, hl])])
        have g1 := neq_len hl
        rw [hR.out]
        clear hres hl ga gb
        go_enter Tryz.func38, Tryz.ntmps38
        go_wp2_with fail
        rw [HWE.out]
        refine (HOA.out _ (Below.refl _ _)).mono ?_
        rintro e w1 ⟨rfl, hb1⟩
        have HB1 := Lib.hid hb1
        obtain ⟨-, y0, y1, y2, y3, y4⟩ := HXB.out.step hb1
        clear hb1
        go_wp2_with fail
        refine (HOB.out _ HB1.out).mono ?_
        rintro e w2 ⟨rfl, hb2⟩
        have HB2 := Lib.hid (bl_trans HB1.out hb2)
        clear y0 y1 y2 y3 y4
        obtain ⟨-, -, -, -, x3, x4⟩ := HXA2.out.step HB2.out
        obtain ⟨-, -, -, -, y3, y4⟩ := HXB.out.step HB2.out
        clear hb2
        go_wp2
        go_ret2
        exact ⟨rfl, bl_trans HBW.out HB2.out⟩
    · have hR : Hid (res = (0, 1)) := Lib.hid (by rw [hres]; unfold daVal; rw [if_neg (by simp [gb])])
      rw [ga] at HOA
      rw [gb] at HOB
      rw [hR.out]
      clear hres ga gb
      go_enter Tryz.func38, Tryz.ntmps38
      go_wp2_with fail
      rw [HWE.out]
      refine (HOA.out _ (Below.refl _ _)).mono ?_
      rintro e w1 ⟨rfl, hb1⟩
      have HB1 := Lib.hid hb1
      obtain ⟨-, y0, y1, y2, y3, y4⟩ := HXB.out.step hb1
      clear hb1
      go_wp2_with fail
      refine (HOB.out _ HB1.out).mono ?_
      rintro e w2 ⟨rfl, hb2⟩
      have HB2 := Lib.hid (bl_trans HB1.out hb2)
      clear hb2
      go_wp2
      go_ret2
      exact ⟨rfl, bl_trans HBW.out HB2.out⟩
  · have hR : Hid (res = (0, 1)) := Lib.hid (by rw [hres]; unfold daVal; rw [if_neg (by simp [ga])])
    rw [ga] at HOA
    rw [hR.out]
    clear hres ga
    go_enter Tryz.func38, Tryz.ntmps38
    go_wp2_with fail
    rw [HWE.out]
    refine (HOA.out _ (Below.refl _ _)).mono ?_
    rintro e w1 ⟨rfl, hb1⟩
    have HB1 := Lib.hid hb1
    clear hb1
    go_wp2
    go_ret2
    exact ⟨rfl, bl_trans HBW.out HB1.out⟩
end Go.Proofs.YtdhjhnbmecbaaaaGreat
/- The walk of the law FnExactDifferAt. -/
namespace Go.Proofs.YtdhjhnbmecbaaaaGreat
open Go.RowKit
set_option linter.unusedVariables false
set_option linter.unusedSimpArgs false
set_option maxHeartbeats 400000
set_option maxRecDepth 100000
set_option maxRecDepth 100000 in
theorem lawDifferAt_any (mc nc : Mc) (a a1 a2 c c1 c2 : Option Addr) (cap cap1 cap2 kap kap1 kap2 : Nat) (w : World) (h0 : PcsAt w.heap.size w a mc.bd.ps) (h1 : SlAt w.heap.size w a1 (flat Po.cells mc.ins)) (h2 : SlAt w.heap.size w a2 (flat Ce.cells mc.outs)) (hok : mc.ok)
    (l0 : mc.bd.ps.length ≤ 9223372036854775807) (l1 : mc.ins.length ≤ 9223372036854775807) (l2 : mc.outs.length ≤ 9223372036854775807)
    (k0 : PcsAt w.heap.size w c nc.bd.ps) (k1 : SlAt w.heap.size w c1 (flat Po.cells nc.ins)) (k2 : SlAt w.heap.size w c2 (flat Ce.cells nc.outs)) (hokn : nc.ok)
    (m0 : nc.bd.ps.length ≤ 9223372036854775807) (m1 : nc.ins.length ≤ 9223372036854775807) (m2 : nc.outs.length ≤ 9223372036854775807) :
    Calls Tryz.prog 8 #[mcv mc.bd.wd mc.bd.hg (.slice a mc.bd.ps.length cap) (.slice a1 mc.ins.length cap1) (.slice a2 mc.outs.length cap2), mcv nc.bd.wd nc.bd.hg (.slice c nc.bd.ps.length kap) (.slice c1 nc.ins.length kap1) (.slice c2 nc.outs.length kap2)] w fun e w' => e = .returned (.bool true) ∧ Below w.heap.size w w' := by
  obtain ⟨wA, hwA⟩ : ∃ wA, wA = w.alloc (.cells #[.int .i8 mc.bd.wd, .int .i8 mc.bd.hg, .slice a mc.bd.ps.length cap, .slice a1 mc.ins.length cap1, .slice a2 mc.outs.length cap2] 29) := ⟨_, rfl⟩
  have HBA := Lib.hid (show Below w.heap.size w wA by rw [hwA]; exact bl_alloc (Below.refl _ _))
  have HXA := Lib.hid (show BX5 wA w.heap.size _ _ _ _ _ by rw [hwA]; exact BX5.new w (.int .i8 mc.bd.wd) (.int .i8 mc.bd.hg) (.slice a mc.bd.ps.length cap) (.slice a1 mc.ins.length cap1) (.slice a2 mc.outs.length cap2) 29)
  obtain ⟨wB, hwB⟩ : ∃ wB, wB = wA.alloc (.cells #[.int .i8 nc.bd.wd, .int .i8 nc.bd.hg, .slice c nc.bd.ps.length kap, .slice c1 nc.ins.length kap1, .slice c2 nc.outs.length kap2] 29) := ⟨_, rfl⟩
  have HBB := Lib.hid (show Below wA.heap.size wA wB by rw [hwB]; exact bl_alloc (Below.refl _ _))
  have hzA : wA.heap.size = w.heap.size + 1 := by rw [hwA]; simp
  have HXB := Lib.hid (show BX5 wB wA.heap.size _ _ _ _ _ by rw [hwB]; exact BX5.new wA (.int .i8 nc.bd.wd) (.int .i8 nc.bd.hg) (.slice c nc.bd.ps.length kap) (.slice c1 nc.ins.length kap1) (.slice c2 nc.outs.length kap2) 29)
  rw [hzA] at HXB
  have HWE : Hid ((w.alloc (.cells #[.int .i8 mc.bd.wd, .int .i8 mc.bd.hg, .slice a mc.bd.ps.length cap, .slice a1 mc.ins.length cap1, .slice a2 mc.outs.length cap2] 29)).alloc (.cells #[.int .i8 nc.bd.wd, .int .i8 nc.bd.hg, .slice c nc.bd.ps.length kap, .slice c1 nc.ins.length kap1, .slice c2 nc.outs.length kap2] 29) = wB) := Lib.hid (by rw [hwB, hwA])
  have HXA2 := Lib.hid (HXA.out.step HBB.out)
  have HBW := Lib.hid (bl_trans HBA.out HBB.out)
  have MA := Lib.hid (MV.step (⟨_, _, _, rfl, ⟨a, cap, rfl, h0⟩, ⟨a1, cap1, rfl, h1⟩, a2, cap2, rfl, h2⟩ : MV w (mcv mc.bd.wd mc.bd.hg (.slice a mc.bd.ps.length cap) (.slice a1 mc.ins.length cap1) (.slice a2 mc.outs.length cap2)) mc) HBW.out)
  have MB := Lib.hid (MV.step (⟨_, _, _, rfl, ⟨c, kap, rfl, k0⟩, ⟨c1, kap1, rfl, k1⟩, c2, kap2, rfl, k2⟩ : MV w (mcv nc.bd.wd nc.bd.hg (.slice c nc.bd.ps.length kap) (.slice c1 nc.ins.length kap1) (.slice c2 nc.outs.length kap2)) nc) HBW.out)
  clear hwA hwB HBA HXA HBB h0 h1 h2 k0 k1 k2
  have hln : (sz3 mc.bd.ps.length mc.ins.length mc.outs.length 1048576 = -1) ∨ ((mc.bd.ps.length : Int) + mc.ins.length + mc.outs.length ≤ 1048576 ∧ ∃ lf : Int, sz3 mc.bd.ps.length mc.ins.length mc.outs.length 1048576 = lf ∧ 0 ≤ lf ∧ lf ≤ 1048576) := by
    unfold sz3
    split
    · exact .inr ⟨by assumption, _, rfl, by omega, by omega⟩
    · exact .inl rfl
  rcases hln with hs | ⟨hn, lf, hs, hlf, hlf2⟩
  · have Hs := Lib.hid hs
    clear hs
    go_enter Tryz.func8, Tryz.ntmps8
    go_wp2_with fail
    rw [HWE.out]
    refine (szMachine_any mc.bd.wd mc.bd.hg a _ cap a1 _ cap1 a2 _ cap2 _ _ (by omega) (by omega) (by omega) (by omega) (by omega)).mono ?_
    rintro e u ⟨rfl, bu⟩
    rw [Hs.out]
    have bu0 : Below w.heap.size w u := bl_trans HBW.out bu
    go_wp2
    go_ret
    exact ⟨rfl, bu0⟩
  · have Hs := Lib.hid hs
    clear hs
    have hlm : (sz3 nc.bd.ps.length nc.ins.length nc.outs.length lf = -1) ∨ ((nc.bd.ps.length : Int) + nc.ins.length + nc.outs.length ≤ 1048576 ∧ ∃ lg : Int, sz3 nc.bd.ps.length nc.ins.length nc.outs.length lf = lg ∧ 0 ≤ lg ∧ lg ≤ 1048576) := by
      unfold sz3
      split
      · exact .inr ⟨by omega, _, rfl, by omega, by omega⟩
      · exact .inl rfl
    rcases hlm with ht | ⟨hm, lg, ht, hlg, hlg2⟩
    · have Ht := Lib.hid ht
      clear ht
      go_enter Tryz.func8, Tryz.ntmps8
      go_wp2_with fail
      rw [HWE.out]
      refine (szMachine_any mc.bd.wd mc.bd.hg a _ cap a1 _ cap1 a2 _ cap2 _ _ (by omega) (by omega) (by omega) (by omega) (by omega)).mono ?_
      rintro e u ⟨rfl, bu⟩
      rw [Hs.out]
      have bu0 : Below w.heap.size w u := bl_trans HBW.out bu
      obtain ⟨-, y0, y1, y2, y3, y4⟩ := HXB.out.step bu
      go_wp2_with fail
      refine (szMachine_any nc.bd.wd nc.bd.hg c _ kap c1 _ kap1 c2 _ kap2 _ _ (by omega) (by omega) (by omega) (by omega) (by omega)).mono ?_
      rintro e u2 ⟨rfl, bu2⟩
      rw [Ht.out]
      have bu3 := bl_trans bu0 bu2
      clear y0 y1 y2 y3 y4
      go_wp2
      go_ret
      exact ⟨rfl, bu3⟩
    · have Ht := Lib.hid ht
      clear ht
      obtain ⟨rv, hrv⟩ : ∃ rv, rv = daVal mc nc := ⟨_, rfl⟩
      have CS := fun va vb w' (h : MV w' va mc) (h' : MV w' vb nc) => specDifferAt_any mc nc va vb w' h h' hok hokn (by omega) (by omega) (by omega) (by omega) (by omega) (by omega)
      have CI := fun va vb w' (h : MVc w' va mc) (h' : MVc w' vb nc) => differAt_any mc nc va vb w' h h' hok hokn (by omega) (by omega) (by omega) (by omega) (by omega) (by omega)
      simp only [← hrv] at CS CI
      have CS := Lib.hid CS
      have CI := Lib.hid CI
      clear hrv
      go_enter Tryz.func8, Tryz.ntmps8
      go_wp2_with fail
      rw [HWE.out]
      refine (szMachine_any mc.bd.wd mc.bd.hg a _ cap a1 _ cap1 a2 _ cap2 _ _ (by omega) (by omega) (by omega) (by omega) (by omega)).mono ?_
      rintro e u ⟨rfl, bu⟩
      rw [Hs.out]
      obtain ⟨-, y0, y1, y2, y3, y4⟩ := HXB.out.step bu
      go_wp2_with fail
      refine (szMachine_any nc.bd.wd nc.bd.hg c _ kap c1 _ kap1 c2 _ kap2 _ _ (by omega) (by omega) (by omega) (by omega) (by omega)).mono ?_
      rintro e u2 ⟨rfl, bu2⟩
      rw [Ht.out]
      have b0 := bl_trans bu bu2
      have B0 := Lib.hid (bl_trans HBW.out b0)
      have AM := MA.out.step b0
      have AN := MB.out.step b0
      have XM := HXA2.out.step b0
      have XN := HXB.out.step b0
      clear y0 y1 y2 y3 y4 bu bu2
      obtain ⟨bM, hbM⟩ : ∃ bM, bM = w.heap.size := ⟨_, rfl⟩
      obtain ⟨bN, hbN⟩ : ∃ bN, bN = w.heap.size + 1 := ⟨_, rfl⟩
      have hMN : bM < u2.heap.size ∧ bN < u2.heap.size := ⟨by rw [hbM]; exact XM.1, by rw [hbN]; exact XN.1⟩
      have HbM := Lib.hid hbM
      have HbN := Lib.hid hbN
      clear hbM hbN
      go_upto_region 8 with fail
      rw [← HbN.out, ← HbM.out]
      rw [← HbM.out] at XM
      rw [← HbN.out] at XN
      have XM0 := XM
      have XN0 := XN
      obtain ⟨-, x0, x1, x2, x3, x4⟩ := XM0
      obtain ⟨-, y0, y1, y2, y3, y4⟩ := XN0
      have CA := Lib.hid (fun w' (h : Below u2.heap.size u2 w') => toMachine_mv (w := w') (AM.step h) (by omega) (by omega) (by omega))
      have CB := Lib.hid (fun w' (h : Below u2.heap.size u2 w') => toMachine_mv (w := w') (AN.step h) (by omega) (by omega) (by omega))
      go_region_held3 (fun w' => Below u2.heap.size u2 w' ∧ ∀ b o, b < u2.heap.size → w'.cell? ⟨b, o, none⟩ = u2.cell? ⟨b, o, none⟩) ((refine ext_s ?_; exact (by repeat (first | with_reducible exact Below.refl _ _ | with_reducible assumption | with_reducible apply bl_drewN | with_reducible apply bl_drew | with_reducible apply bl_alloc | (with_reducible refine bl_set ?_ (by first | (simp; done) | (simp; omega)) _) | with_reducible refine bl_trans ?_ (by with_reducible assumption))))) (first | (go_at_call 18; with_reducible refine (CA.out _ ?_).mono ?_; (exact (by repeat (first | with_reducible exact Below.refl _ _ | with_reducible assumption | with_reducible apply bl_drewN | with_reducible apply bl_drew | with_reducible apply bl_alloc | (with_reducible refine bl_set ?_ (by first | (simp; done) | (simp; omega)) _) | with_reducible refine bl_trans ?_ (by with_reducible assumption)))); rintro e wa ⟨sa, ia, oa, rfl, Oa, ba⟩; have ba1 : Below u2.heap.size u2 wa := (by repeat (first | with_reducible exact Below.refl _ _ | with_reducible assumption | with_reducible apply bl_drewN | with_reducible apply bl_drew | with_reducible apply bl_alloc | (with_reducible refine bl_set ?_ (by first | (simp; done) | (simp; omega)) _) | with_reducible refine bl_trans ?_ (by with_reducible assumption))); obtain ⟨hca, hfa⟩ := bcell ba1) | (go_at_call 18; with_reducible refine (CB.out _ ?_).mono ?_; (exact (by repeat (first | with_reducible exact Below.refl _ _ | with_reducible assumption | with_reducible apply bl_drewN | with_reducible apply bl_drew | with_reducible apply bl_alloc | (with_reducible refine bl_set ?_ (by first | (simp; done) | (simp; omega)) _) | with_reducible refine bl_trans ?_ (by with_reducible assumption)))); rintro e wb ⟨sb, ib, ob, rfl, Ob, bb⟩; have bb1 : Below u2.heap.size u2 wb := (by repeat (first | with_reducible exact Below.refl _ _ | with_reducible assumption | with_reducible apply bl_drewN | with_reducible apply bl_drew | with_reducible apply bl_alloc | (with_reducible refine bl_set ?_ (by first | (simp; done) | (simp; omega)) _) | with_reducible refine bl_trans ?_ (by with_reducible assumption))); obtain ⟨hcb, hfb⟩ := bcell bb1; have Oab := Oa.mv.step bb) | (go_at_call 37; refine (CS.out _ _ _ Oab Ob.mv).mono ?_; rintro e u3 ⟨rfl, bc⟩))
      have b3 : Below u2.heap.size u2 u3 := (by repeat (first | with_reducible exact Below.refl _ _ | with_reducible assumption | with_reducible apply bl_drewN | with_reducible apply bl_drew | with_reducible apply bl_alloc | (with_reducible refine bl_set ?_ (by first | (simp; done) | (simp; omega)) _) | with_reducible refine bl_trans ?_ (by with_reducible assumption)))
      clear x0 x1 x2 x3 x4 y0 y1 y2 y3 y4 CA CB
      have AM := AM.step b3
      have AN := AN.step b3
      have XM := XM.step b3
      have XN := XN.step b3
      have B3 := Lib.hid (bl_trans B0.out b3)
      have hMN3 := hMN
      clear b0 b3
      have XMh := XM
      obtain ⟨-, x0, x1, x2, x3, x4⟩ := XM
      go_wp2_with fail
      refine (toMachine_mv AM (by omega) (by omega) (by omega)).mono ?_
      rintro e w4 ⟨sx, ix, ox, rfl, Ox4, b4⟩
      have AM4 := AM.step b4
      have AN4 := AN.step b4
      have XM4 := XMh.step b4
      have XN4 := XN.step b4
      have B4 := Lib.hid (bl_trans B3.out b4)
      obtain ⟨asx, capsx, rfl, -⟩ := own_at Ox4.1
      obtain ⟨aix, capix, rfl, -⟩ := own_at Ox4.2.1
      obtain ⟨aox, capox, rfl, -⟩ := own_at Ox4.2.2.1
      clear x0 x1 x2 x3 x4
      go_upto_region 10 with fail
      obtain ⟨wC, hwC⟩ : ∃ wC, wC = w4.alloc (.cells #[.int .i8 mc.bd.wd, .int .i8 mc.bd.hg, .slice asx mc.bd.ps.length capsx, .slice aix mc.ins.length capix, .slice aox mc.outs.length capox] 40) := ⟨_, rfl⟩
      have bC : Below w4.heap.size w4 wC := by rw [hwC]; exact bl_alloc (Below.refl _ _)
      have XX := BX5.new w4 (.int .i8 mc.bd.wd) (.int .i8 mc.bd.hg) (.slice asx mc.bd.ps.length capsx) (.slice aix mc.ins.length capix) (.slice aox mc.outs.length capox) 40
      rw [← hwC] at XX ⊢
      obtain ⟨bX, hbX⟩ : ∃ bX, bX = w4.heap.size := ⟨_, rfl⟩
      rw [← hbX] at XX ⊢
      clear hwC hbX
      have XNC := XN4.step bC
      obtain ⟨-, y0, y1, y2, y3, y4⟩ := XNC
      go_wp2_with fail
      refine (toMachine_mv (AN4.step bC) (by omega) (by omega) (by omega)).mono ?_
      rintro e w5 ⟨sz, iz, oz, rfl, Oz5, b5⟩
      have XX5 := XX.step b5
      have b45 := bl_trans bC b5
      have AM5 := AM4.step b45
      have AN5 := AN4.step b45
      have XM5 := XM4.step b45
      have XN5 := XN4.step b45
      have Mx5 := Ox4.mvc.step b45
      have B5 := Lib.hid (bl_trans B4.out b45)
      obtain ⟨asz, capsz, rfl, -⟩ := own_at Oz5.1
      obtain ⟨aiz, capiz, rfl, -⟩ := own_at Oz5.2.1
      obtain ⟨aoz, capoz, rfl, -⟩ := own_at Oz5.2.2.1
      clear y0 y1 y2 y3 y4 bC b5 b45
      go_upto_region 11 with fail
      obtain ⟨w6, hw6⟩ : ∃ w6, w6 = w5.alloc (.cells #[.int .i8 nc.bd.wd, .int .i8 nc.bd.hg, .slice asz nc.bd.ps.length capsz, .slice aiz nc.ins.length capiz, .slice aoz nc.outs.length capoz] 40) := ⟨_, rfl⟩
      have b6 : Below w5.heap.size w5 w6 := by rw [hw6]; exact bl_alloc (Below.refl _ _)
      have XY6 := BX5.new w5 (.int .i8 nc.bd.wd) (.int .i8 nc.bd.hg) (.slice asz nc.bd.ps.length capsz) (.slice aiz nc.ins.length capiz) (.slice aoz nc.outs.length capoz) 40
      rw [← hw6] at XY6 ⊢
      obtain ⟨bY, hbY⟩ : ∃ bY, bY = w5.heap.size := ⟨_, rfl⟩
      rw [← hbY] at XY6 ⊢
      clear hw6 hbY
      have XX6 := XX5.step b6
      have AM6 := AM5.step b6
      have AN6 := AN5.step b6
      have XM6 := XM5.step b6
      have XN6 := XN5.step b6
      have Mx6 := Mx5.step b6
      have Mz6 := Oz5.mvc.step b6
      have B6 := Lib.hid (bl_trans B5.out b6)
      clear b6
      have t1 := XX6
      have t2 := XY6
      obtain ⟨-, x0, x1, x2, x3, x4⟩ := t1
      obtain ⟨-, y0, y1, y2, y3, y4⟩ := t2
      go_wp2_with fail
      refine (CI.out _ _ _ Mx6 Mz6).mono ?_
      rintro e w7 ⟨rfl, b7⟩
      have XX7 := XX6.step b7
      have XY7 := XY6.step b7
      have AM7 := AM6.step b7
      have AN7 := AN6.step b7
      have XM7 := XM6.step b7
      have XN7 := XN6.step b7
      have Mx7 := Mx6.mv.step b7
      have Mz7 := Mz6.mv.step b7
      have B7 := Lib.hid (bl_trans B6.out b7)
      clear x0 x1 x2 x3 x4 y0 y1 y2 y3 y4 b7
      go_upto_region 14 with fail
      have t1 := XX7
      have t2 := XM7
      obtain ⟨hl1, x0, x1, x2, x3, x4⟩ := t1
      obtain ⟨hl2, y0, y1, y2, y3, y4⟩ := t2
      have CK := Lib.hid (fun w' (h : Below w7.heap.size w7 w') => toMachine_mv (w := w') (AM7.step h) (by omega) (by omega) (by omega))
      have CL := Lib.hid (fun w' v' (h : Below w7.heap.size w7 w') (h' : MV w' v' mc) => eqMachine_yes (w := w') (Mx7.step h) h' (by omega) (by omega) (by omega))
      go_region_held3 (fun w' => Below w7.heap.size w7 w' ∧ ∀ b o, b < w7.heap.size → w'.cell? ⟨b, o, none⟩ = w7.cell? ⟨b, o, none⟩) ((refine ext_s ?_; exact (by repeat (first | with_reducible exact Below.refl _ _ | with_reducible assumption | with_reducible apply bl_drewN | with_reducible apply bl_drew | with_reducible apply bl_alloc | (with_reducible refine bl_set ?_ (by first | (simp; done) | (simp; omega)) _) | with_reducible refine bl_trans ?_ (by with_reducible assumption))))) (first | (go_at_call 18; refine (CK.out _ ?_).mono ?_; (exact (by repeat (first | with_reducible exact Below.refl _ _ | with_reducible assumption | with_reducible apply bl_drewN | with_reducible apply bl_drew | with_reducible apply bl_alloc | (with_reducible refine bl_set ?_ (by first | (simp; done) | (simp; omega)) _) | with_reducible refine bl_trans ?_ (by with_reducible assumption)))); rintro e wa ⟨sa, ia, oa, rfl, Oa, ba⟩; obtain ⟨hca, hfa⟩ := bcell ba) | (go_at_call 21; refine (CL.out _ _ ?_ Oa.mv).mono ?_; (exact (by repeat (first | with_reducible exact Below.refl _ _ | with_reducible assumption | with_reducible apply bl_drewN | with_reducible apply bl_drew | with_reducible apply bl_alloc | (with_reducible refine bl_set ?_ (by first | (simp; done) | (simp; omega)) _) | with_reducible refine bl_trans ?_ (by with_reducible assumption)))); rintro e w8 ⟨rfl, be⟩))
      have b8 : Below w7.heap.size w7 w8 := (by repeat (first | with_reducible exact Below.refl _ _ | with_reducible assumption | with_reducible apply bl_drewN | with_reducible apply bl_drew | with_reducible apply bl_alloc | (with_reducible refine bl_set ?_ (by first | (simp; done) | (simp; omega)) _) | with_reducible refine bl_trans ?_ (by with_reducible assumption)))
      clear CK CL x0 x1 x2 x3 x4 y0 y1 y2 y3 y4
      have XY8 := XY7.step b8
      have AN8 := AN7.step b8
      have XN8 := XN7.step b8
      have Mz8 := Mz7.step b8
      have B8 := Lib.hid (bl_trans B7.out b8)
      clear b8
      go_upto_region 16 with fail
      have t1 := XY8
      have t2 := XN8
      obtain ⟨hl3, x0, x1, x2, x3, x4⟩ := t1
      obtain ⟨hl4, y0, y1, y2, y3, y4⟩ := t2
      have CK := Lib.hid (fun w' (h : Below w8.heap.size w8 w') => toMachine_mv (w := w') (AN8.step h) (by omega) (by omega) (by omega))
      have CL := Lib.hid (fun w' v' (h : Below w8.heap.size w8 w') (h' : MV w' v' nc) => eqMachine_yes (w := w') (Mz8.step h) h' (by omega) (by omega) (by omega))
      go_region_held3 (fun w' => Below w8.heap.size w8 w' ∧ ∀ b o, b < w8.heap.size → w'.cell? ⟨b, o, none⟩ = w8.cell? ⟨b, o, none⟩) ((refine ext_s ?_; exact (by repeat (first | with_reducible exact Below.refl _ _ | with_reducible assumption | with_reducible apply bl_drewN | with_reducible apply bl_drew | with_reducible apply bl_alloc | (with_reducible refine bl_set ?_ (by first | (simp; done) | (simp; omega)) _) | with_reducible refine bl_trans ?_ (by with_reducible assumption))))) (first | (go_at_call 18; refine (CK.out _ ?_).mono ?_; (exact (by repeat (first | with_reducible exact Below.refl _ _ | with_reducible assumption | with_reducible apply bl_drewN | with_reducible apply bl_drew | with_reducible apply bl_alloc | (with_reducible refine bl_set ?_ (by first | (simp; done) | (simp; omega)) _) | with_reducible refine bl_trans ?_ (by with_reducible assumption)))); rintro e wa2 ⟨sa2, ia2, oa2, rfl, Oa2, ba2⟩; obtain ⟨hca2, hfa2⟩ := bcell ba2) | (go_at_call 21; refine (CL.out _ _ ?_ Oa2.mv).mono ?_; (exact (by repeat (first | with_reducible exact Below.refl _ _ | with_reducible assumption | with_reducible apply bl_drewN | with_reducible apply bl_drew | with_reducible apply bl_alloc | (with_reducible refine bl_set ?_ (by first | (simp; done) | (simp; omega)) _) | with_reducible refine bl_trans ?_ (by with_reducible assumption)))); rintro e w9 ⟨rfl, be2⟩))
      have b9 : Below w8.heap.size w8 w9 := (by repeat (first | with_reducible exact Below.refl _ _ | with_reducible assumption | with_reducible apply bl_drewN | with_reducible apply bl_drew | with_reducible apply bl_alloc | (with_reducible refine bl_set ?_ (by first | (simp; done) | (simp; omega)) _) | with_reducible refine bl_trans ?_ (by with_reducible assumption)))
      clear CK CL x0 x1 x2 x3 x4 y0 y1 y2 y3 y4
      have B9 := Lib.hid (bl_trans B8.out b9)
      go_wp2
      go_ret
      exact ⟨rfl, B9.out⟩
end Go.Proofs.YtdhjhnbmecbaaaaGreat
