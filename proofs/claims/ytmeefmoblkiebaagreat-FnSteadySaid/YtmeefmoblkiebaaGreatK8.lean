import Derived.Test.YtmeefmoblkiebaaGreatK7
import Derived.Deep.RegionHeld3
import Derived.Deep.CutRange
import Derived.Deep.CutBlock
import Derived.BigQuiet
/- The walk of the law FnSteady. -/
namespace Go.Proofs.YtmeefmoblkiebaaGreat
open Go.RowKit
set_option linter.unusedVariables false
set_option linter.unusedSimpArgs false
set_option maxHeartbeats 400000
set_option maxRecDepth 100000
/-- What the law has drawn. -/
structure SyS (W w : World) (bx : Nat) (wd hg : Int) (vP vI vO : Value) (m : Mc) (a1 : Option Addr) (more : List Int) : Prop where
  b : Below W.heap.size W w
  x : BX5 w bx (.int .i8 wd) (.int .i8 hg) vP vI vO
  m : MVc w (mcv wd hg vP vI vO) m
  q : SlAt w.heap.size w a1 (flat U8c more)
theorem SyS.step {W w w' : World} {bx : Nat} {wd hg : Int} {vP vI vO : Value} {m : Mc} {a1 : Option Addr} {more : List Int} (h : SyS W w bx wd hg vP vI vO m a1 more) (hb : Below w.heap.size w w') : SyS W w' bx wd hg vP vI vO m a1 more :=
  ⟨bl_trans h.b hb, h.x.step hb, h.m.step hb, (h.q.below hb (Nat.le_refl _)).mono hb.size⟩
theorem sv_n64 {w : World} {a : Option Addr} {n cap : Nat} {xs : List Int} (h : SV N64_cells w (.slice a n cap) xs) : SlAt w.heap.size w a (flat N64_cells xs) ∧ n = xs.length := by
  obtain ⟨a', c', h1, h2⟩ := h
  simp only [Value.slice.injEq] at h1
  obtain ⟨rfl, rfl, rfl⟩ := h1
  exact ⟨h2, rfl⟩
theorem own_svN {w : World} {base : Nat} {v : Value} {xs : List Int} {n : Nat} {e : TypeId} (h : w.ownsRow base e 1 v n (flat N64_cells xs)) (hn : n = xs.length) : SV N64_cells w v xs := by
  subst hn
  obtain ⟨a, cap, rfl, hs, -⟩ := own_at h
  exact ⟨a, cap, rfl, hs⟩
theorem all_bits (n : Nat) (b : Int) : lbList n (2 ^ n - 1) b = List.replicate n b := by
  apply List.ext_getElem
  · simp [lbList_len]
  · intro i h1 h2
    have hi : i < n := by rw [lbList_len] at h1; exact h1
    have e : (lbList n (2 ^ n - 1) b)[i] = if i < n ∧ (2 ^ n - 1).testBit i = true then b else 0 := lbSt_get n (2 ^ n - 1) b n i hi
    rw [e, List.getElem_replicate, Nat.testBit_two_pow_sub_one]
    simp [hi]
set_option maxHeartbeats 6000000 in
set_option maxRecDepth 100000 in
theorem lawSteady_any (a : Option Addr) (cap : Nat) (code : List Int) (a1 : Option Addr) (cap1 : Nat) (more : List Int) (w : World) (h0 : SlAt w.heap.size w a (flat U8c code)) (ok0 : ∀ k (h : k < code.length), okU8 code[k]) (h1 : SlAt w.heap.size w a1 (flat U8c more)) (ok1 : ∀ k (h : k < more.length), okU8 more[k]) :
    Calls Tryz.prog 4 #[.slice a code.length cap, .slice a1 more.length cap1] w fun e w' => e = .returned (.bool true) ∧ Below w.heap.size w w' := by
  by_cases hL : 4096 < code.length
  · have hL1 : decide (4096 < code.length) = true := by simpa using hL
    go_enter Tryz.func4, Tryz.ntmps4
    go_wp2_with fail
    refine (f6big_any a code.length cap _).mono ?_
    rintro e w' ⟨rfl, rfl⟩
    rw [hL1]
    go_wp2
    go_ret
    exact ⟨rfl, Below.refl _ _⟩
  by_cases hM : 4096 < more.length
  · have hL1 : decide (4096 < code.length) = false := by simpa using hL
    have hM1 : decide (4096 < more.length) = true := by simpa using hM
    go_enter Tryz.func4, Tryz.ntmps4
    go_wp2_with fail
    refine (f6big_any a code.length cap _).mono ?_
    rintro e w' ⟨rfl, rfl⟩
    rw [hL1]
    go_wp2_with fail
    refine (f6big_any a1 more.length cap1 _).mono ?_
    rintro e w' ⟨rfl, rfl⟩
    rw [hM1]
    go_wp2
    go_ret
    exact ⟨rfl, Below.refl _ _⟩
  have HL1 := Lib.hid (show decide (4096 < code.length) = false by simpa using hL)
  have HM1 := Lib.hid (show decide (4096 < more.length) = false by simpa using hM)
  have B0 : BytesOk code := ⟨by omega, ok0⟩
  have B1 : BytesOk more := ⟨by omega, ok1⟩
  have hcl : code.length ≤ 4096 ∧ more.length ≤ 4096 := by omega
  have H1 := Lib.hid h1
  have HB := Lib.hid (p6Machine_any a cap code w h0 B0)
  clear hL hM ok0 ok1 h0 h1
  go_enter Tryz.func4, Tryz.ntmps4
  go_wp2_with fail
  refine (f6big_any a code.length cap _).mono ?_
  rintro e w' ⟨rfl, rfl⟩
  rw [HL1.out]
  go_wp2_with fail
  refine (f6big_any a1 more.length cap1 _).mono ?_
  rintro e w' ⟨rfl, rfl⟩
  rw [HM1.out]
  go_wp2_with fail
  refine HB.out.mono ?_
  rintro e w1 ⟨wd, hg, vP, vI, vO, rfl, ps, is, os, hv, hok, hn3, hown, hb1⟩
  obtain ⟨pA, pC, rfl, -⟩ := own_at hown.1
  obtain ⟨iA, iC, rfl, -⟩ := own_at hown.2.1
  obtain ⟨oA, oC, rfl, -⟩ := own_at hown.2.2.1
  have hmv0 : MVc w1 (mcv wd hg (.slice pA ps.length pC) (.slice iA is.length iC) (.slice oA os.length oC)) ⟨⟨wd, hg, ps⟩, is, os⟩ := hown.mvc
  have hb11 : Below w1.heap.size w1 (w1.alloc (.cells #[.int .i8 wd, .int .i8 hg, .slice pA ps.length pC, .slice iA is.length iC, .slice oA os.length oC] 55)) := bl_alloc (Below.refl _ _)
  have X1 : Hid (BX5 (w1.alloc (.cells #[.int .i8 wd, .int .i8 hg, .slice pA ps.length pC, .slice iA is.length iC, .slice oA os.length oC] 55)) w1.heap.size (.int .i8 wd) (.int .i8 hg) (.slice pA ps.length pC) (.slice iA is.length iC) (.slice oA os.length oC)) := Lib.hid (BX5.new _ _ _ _ _ _ _)
  have hmv1 := hmv0.step hb11
  have hb12 := bl_trans hb1 hb11
  have hq1 := (H1.out.below hb12 (Nat.le_refl _)).mono hb12.size
  obtain ⟨bx, hbx⟩ : ∃ bx, bx = w1.heap.size := ⟨_, rfl⟩
  obtain ⟨u1, hu1⟩ : ∃ u1, u1 = w1.alloc (.cells #[.int .i8 wd, .int .i8 hg, .slice pA ps.length pC, .slice iA is.length iC, .slice oA os.length oC] 55) := ⟨_, rfl⟩
  rw [← hu1, ← hbx] at X1
  rw [← hu1] at hmv1 hb12 hq1
  have HS : Hid (SyS w u1 bx wd hg (.slice pA ps.length pC) (.slice iA is.length iC) (.slice oA os.length oC) ⟨⟨wd, hg, ps⟩, is, os⟩ a1 more) := Lib.hid ⟨hb12, X1.out, hmv1, hq1⟩
  have hparts := vMc_parts _ hv
  have hi1 : 1 ≤ is.length := hparts.2.2.1
  have hps60 : ps.length ≤ 60 := hparts.2.1
  have hos8 : os.length ≤ 8 := hparts.2.2.2.2.2.1
  have HV := Lib.hid hv
  have HOK := Lib.hid hok
  clear hparts hv hok hown hmv0 hmv1 hb11 hb12 hq1 X1 hb1 HB H1
  obtain ⟨x0, x1, x2, x3, x4, x5⟩ := HS.out.x
  go_upto_region 4 with fail
  rw [← hu1, ← hbx]
  clear hu1 hbx
  go_wp2_with fail
  refine (p6Pick_any a1 cap1 more 4 (by omega) u1 HS.out.q B1).mono ?_
  rintro e u2 ⟨b', rfl, b0, b1, hb2⟩
  have HS2 := Lib.hid (HS.out.step hb2)
  obtain ⟨b, hb, hb14⟩ : ∃ b : Int, IntKind.i64.wrap (1 + b') = b ∧ 1 ≤ b ∧ b ≤ 4 := ⟨1 + b', wrap_i64' _ (by omega) (by omega), by omega, by omega⟩
  have HUS := us_cases ⟨⟨wd, hg, ps⟩, is, os⟩ b HV.out hn3 hb14
  have KI0 := fun u (h : SyS w u bx wd hg (.slice pA ps.length pC) (.slice iA is.length iC) (.slice oA os.length oC) ⟨⟨wd, hg, ps⟩, is, os⟩ a1 more) => isSteady_any ⟨⟨wd, hg, ps⟩, is, os⟩ (mcv wd hg (.slice pA ps.length pC) (.slice iA is.length iC) (.slice oA os.length oC)) b u h.m HOK.out (by show ps.length ≤ 10000000; omega) (by show is.length ≤ 10000000; omega) (by show os.length ≤ 10000000; omega)
  have KF0 := fun u (h : SyS w u bx wd hg (.slice pA ps.length pC) (.slice iA is.length iC) (.slice oA os.length oC) ⟨⟨wd, hg, ps⟩, is, os⟩ a1 more) => firstUnsteady_any ⟨⟨wd, hg, ps⟩, is, os⟩ (mcv wd hg (.slice pA ps.length pC) (.slice iA is.length iC) (.slice oA os.length oC)) b u h.m HOK.out (by show ps.length ≤ 10000000; omega) (by show is.length ≤ 10000000; omega) (by show os.length ≤ 10000000; omega)
  have KG0 := fun u (h : SyS w u bx wd hg (.slice pA ps.length pC) (.slice iA is.length iC) (.slice oA os.length oC) ⟨⟨wd, hg, ps⟩, is, os⟩ a1 more) => specFirstUnsteady_any ⟨⟨wd, hg, ps⟩, is, os⟩ (mcv wd hg (.slice pA ps.length pC) (.slice iA is.length iC) (.slice oA os.length oC)) b u h.m.mv HOK.out (by show ps.length ≤ 10000000; omega) (by show is.length ≤ 10000000; omega) (by show os.length ≤ 10000000; omega)
  have hll := usLate_len ⟨⟨wd, hg, ps⟩, is, os⟩ b
  obtain ⟨uc, huc⟩ : ∃ x, x = usCode ⟨⟨wd, hg, ps⟩, is, os⟩ b := ⟨_, rfl⟩
  obtain ⟨ur, hur⟩ : ∃ x, x = usRow ⟨⟨wd, hg, ps⟩, is, os⟩ b := ⟨_, rfl⟩
  obtain ⟨ul, hul⟩ : ∃ x, x = usLate ⟨⟨wd, hg, ps⟩, is, os⟩ b := ⟨_, rfl⟩
  obtain ⟨st, hst⟩ : ∃ x, x = stdyB uc := ⟨_, rfl⟩
  simp only [← huc, ← hur, ← hul] at KI0 KF0 KG0 HUS hll
  rw [← hst] at KI0
  have hsc : stdyC uc = 0 := by
    rcases HUS with ⟨h, -⟩ | ⟨r, c, -, -, h, -⟩
    · rw [h]; rfl
    · rw [h]; rfl
  have hst6 : (uc == 6) = st := by rw [hst]; rfl
  have hul3 : ul.length ≤ 3 := by
    have : ul.length ≤ is.length := hll
    omega
  rw [hsc] at KI0
  have KI := Lib.hid KI0
  have KF := Lib.hid KF0
  have KG := Lib.hid KG0
  have HUSh := Lib.hid HUS
  clear KI0 KF0 KG0 HUS huc hur hul hst hsc hll x0 x1 x2 x3 x4 x5 HS b0 b1 hb2
  obtain ⟨x0, x1, x2, x3, x4, x5⟩ := HS2.out.x
  go_wp2_with fail
  refine (KI.out _ HS2.out).mono ?_
  rintro e u3 ⟨rfl, hb3⟩
  have HS3 := Lib.hid (HS2.out.step hb3)
  clear x0 x1 x2 x3 x4 x5 hb3 HS2 hb
  obtain ⟨x0, x1, x2, x3, x4, x5⟩ := HS3.out.x
  go_wp2_with fail
  refine (KF.out _ HS3.out).mono ?_
  rintro e u4 ⟨vl, rfl, hownl, hb4⟩
  have HS4 := Lib.hid (HS3.out.step hb4)
  have HL4 := Lib.hid (own_svN hownl rfl)
  obtain ⟨lA, lC, rfl, -⟩ := own_at hownl
  clear x0 x1 x2 x3 x4 x5 hb4 hownl HS3
  obtain ⟨x0, x1, x2, x3, x4, x5⟩ := HS4.out.x
  go_wp2_with fail
  refine (KG.out _ HS4.out).mono ?_
  rintro e u5 ⟨vt, rfl, hownt, hb5⟩
  have HS5 := Lib.hid (HS4.out.step hb5)
  have HL5 := Lib.hid (HL4.out.step hb5)
  have HT5 := Lib.hid (own_svN hownt rfl)
  obtain ⟨tA, tC, rfl, -⟩ := own_at hownt
  clear x0 x1 x2 x3 x4 x5 hb5 hownt HS4 HL4
  have HSL : Hid (Calls Tryz.prog 28 #[.slice lA ul.length lC, .slice tA ul.length tC] u5 fun e w' => e = .returned (.bool true) ∧ Below u5.heap.size u5 w') := Lib.hid (by
    have := sameList_any (.slice lA ul.length lC) (.slice tA ul.length tC) ul ul u5 HL5.out HT5.out (by omega) (by omega)
    rw [decide_eq_true rfl] at this
    exact this)
  go_wp2_with fail
  refine HSL.out.mono ?_
  rintro e u6 ⟨rfl, hb6⟩
  have HS6 := Lib.hid (HS5.out.step hb6)
  have HT6 := Lib.hid (HT5.out.step hb6)
  clear hb6 HS5 HT5 HL5 HSL KI KF KG
  obtain ⟨i0, hi0, hiz0, hiz1, hiz2⟩ := info_parts Tryz.infoInt64
  have KO : Hid (∀ (u : World) (h : SyS w u bx wd hg (.slice pA ps.length pC) (.slice iA is.length iC) (.slice oA os.length oC) ⟨⟨wd, hg, ps⟩, is, os⟩ a1 more) (r : Nat) (late : List Int) (al : Option Addr) (n cl : Nat) (hs : SV N64_cells u (.slice al n cl) late) (hr : r < mRows ⟨⟨wd, hg, ps⟩, is, os⟩) (hl : late.length = is.length) (ha : ∀ x ∈ late, 0 ≤ x ∧ x ≤ 100), Calls Tryz.prog 29 #[(mcv wd hg (.slice pA ps.length pC) (.slice iA is.length iC) (.slice oA os.length oC)), .int .i64 (r : Int), .slice al n cl] u fun e w' => e = .returned (.tuple #[.int .i64 (mOut ⟨⟨wd, hg, ps⟩, is, os⟩ r late : Int), .int .i64 0]) ∧ Below u.heap.size u w') := Lib.hid (fun u h r late al n cl hs hr hl ha => by
    obtain ⟨h9, rfl⟩ := sv_n64 hs
    have := outputsIn_any ⟨⟨wd, hg, ps⟩, is, os⟩ (mcv wd hg (.slice pA ps.length pC) (.slice iA is.length iC) (.slice oA os.length oC)) (r : Int) al cl late u h.m HOK.out (by show ps.length ≤ 10000000; omega) (by show is.length ≤ 10000000; omega) (by show os.length ≤ 10000000; omega) h9 (by omega)
    obtain ⟨e1, e2⟩ := ask_ok0 ⟨⟨wd, hg, ps⟩, is, os⟩ r late HV.out hr hl ha
    rw [e1, e2] at this
    exact this)
  go_upto_if 100 with (refine wpList_make_full _ rfl (.tmp 97) (.tmp 97) 34 rfl u6.heap.size 2 i0 _ 1 Tryz.underlying34 hi0 hiz0 hiz1 _ _ _ _ is.length rfl rfl rfl rfl (by rw [hiz2]; omega) (by unfold maxLen; omega) (Nat.le_refl _) ?_; intro u7 hmade7 hgrow7)
  rw [made_rep _ rfl, ← flat_zeros] at hmade7
  have hb7 : Below u6.heap.size u6 u7 := bl_grown (Below.refl _ _) hgrow7 (by simp)
  have HS7 := Lib.hid (HS6.out.step hb7)
  have HT7 := Lib.hid (HT6.out.step hb7)
  have HN7 := Lib.hid (own_svN hmade7 (zeros_in is.length).1.symm)
  obtain ⟨g0, hg0⟩ : ∃ g0, g0 = u6.heap.size := ⟨_, rfl⟩
  rw [← hg0] at HN7 ⊢
  clear hmade7 hgrow7 hb7 HS6 HT6 hg0
  go_cut [] from 99 (fun wx => SyS w wx bx wd hg (.slice pA ps.length pC) (.slice iA is.length iC) (.slice oA os.length oC) ⟨⟨wd, hg, ps⟩, is, os⟩ a1 more ∧ SV N64_cells wx (.slice (some ⟨g0, 0, none⟩) is.length is.length) (zeros is.length))
  case first =>
    rcases HUSh.out with ⟨huc, -, -, -⟩ | ⟨r, c, hr, hc, huc, hur, hul, hp, -⟩
    · subst huc
      go_wp2_with fail
      go_meet
      exact ⟨HS7.out, HN7.out⟩
    · subst huc
      subst hur
      subst hul
      obtain ⟨z1, z2⟩ := zeros_in is.length
      obtain ⟨l1, l2⟩ := lb_in is.length c b hb14
      have HP1a := fun (u : World) (h : SyS w u bx wd hg (.slice pA ps.length pC) (.slice iA is.length iC) (.slice oA os.length oC) ⟨⟨wd, hg, ps⟩, is, os⟩ a1 more) (al : Option Addr) (n cl : Nat) (hs : SV N64_cells u (.slice al n cl) (zeros is.length)) => KO.out u h r (zeros is.length) al n cl hs hr z1 z2
      have HP2a := fun (u : World) (h : SyS w u bx wd hg (.slice pA ps.length pC) (.slice iA is.length iC) (.slice oA os.length oC) ⟨⟨wd, hg, ps⟩, is, os⟩ a1 more) (al : Option Addr) (n cl : Nat) (hs : SV N64_cells u (.slice al n cl) (lbList is.length c b)) => KO.out u h r (lbList is.length c b) al n cl hs hr l1 l2
      obtain ⟨A, hA⟩ : ∃ A : Int, A = (mOut ⟨⟨wd, hg, ps⟩, is, os⟩ r (zeros is.length) : Int) := ⟨_, rfl⟩
      obtain ⟨B, hB⟩ : ∃ B : Int, B = (mOut ⟨⟨wd, hg, ps⟩, is, os⟩ r (lbList is.length c b) : Int) := ⟨_, rfl⟩
      have hAB : (A == B) = false := by
        have h9 : (B != A) = true := by rw [hA, hB]; exact hp
        rw [bne_iff_ne] at h9
        exact beq_false_of_ne (fun e => h9 e.symm)
      simp only [← hA] at HP1a
      simp only [← hB] at HP2a
      have HP1 := Lib.hid HP1a
      have HP2 := Lib.hid HP2a
      clear hA hB hp z1 z2 l1 l2 HP1a HP2a
      obtain ⟨x0, x1, x2, x3, x4, x5⟩ := HS7.out.x
      go_wp2_with fail
      refine (HP1.out _ HS7.out _ _ _ HN7.out).mono ?_
      rintro e u8 ⟨rfl, hb8⟩
      have HS8 := Lib.hid (HS7.out.step hb8)
      have HT8 := Lib.hid (HT7.out.step hb8)
      have HN8 := Lib.hid (HN7.out.step hb8)
      clear x0 x1 x2 x3 x4 x5 hb8 HS7 HT7 HN7 HP1
      obtain ⟨x0, x1, x2, x3, x4, x5⟩ := HS8.out.x
      go_wp2_with fail
      refine (HP2.out _ HS8.out _ _ _ HT8.out).mono ?_
      rintro e u9 ⟨rfl, hb9⟩
      have HS9 := Lib.hid (HS8.out.step hb9)
      have HN9 := Lib.hid (HN8.out.step hb9)
      clear x0 x1 x2 x3 x4 x5 hb9 HS8 HT8 HN8 HP2
      go_wp2_with fail
      go_meet
      exact ⟨HS9.out, HN9.out⟩
  case rest =>
    obtain ⟨hsc, hnc⟩ := hcut
    have HS := Lib.hid hsc
    have HN := Lib.hid hnc
    clear hsc hnc HS7 HT7 HN7
    obtain ⟨R, hR⟩ : ∃ R : Nat, R = 2 ^ is.length := ⟨_, rfl⟩
    have hR8 : R ≤ 8 := by rw [hR]; exact Nat.pow_le_pow_right (n := 2) (by omega) hn3
    have hpw : (2 : Int) ^ is.length = (R : Int) := by rw [hR, Int.natCast_pow]; rfl
    have hwr : IntKind.i64.wrap (R : Int) = (R : Int) := wrap_i64' _ (by omega) (by omega)
    have hwu : IntKind.u64.wrap (is.length : Int) = (is.length : Int) := wrap_u64 _ (by omega) (by omega)
    have HR : Hid (mRows ⟨⟨wd, hg, ps⟩, is, os⟩ = R) := Lib.hid (by rw [hR]; rfl)
    have HR2 := Lib.hid hR
    clear hR
    have KH0 := fun (u : World) (h : SyS w u bx wd hg (.slice pA ps.length pC) (.slice iA is.length iC) (.slice oA os.length oC) ⟨⟨wd, hg, ps⟩, is, os⟩ a1 more) (r : Nat) (hr : r < R) => hazardsIn_any ⟨⟨wd, hg, ps⟩, is, os⟩ (mcv wd hg (.slice pA ps.length pC) (.slice iA is.length iC) (.slice oA os.length oC)) (r : Int) b u h.m HOK.out (by show ps.length ≤ 10000000; omega) (by show is.length ≤ 10000000; omega) (by show os.length ≤ 10000000; omega)
    have KJ0 := fun (u : World) (h : SyS w u bx wd hg (.slice pA ps.length pC) (.slice iA is.length iC) (.slice oA os.length oC) ⟨⟨wd, hg, ps⟩, is, os⟩ a1 more) (r : Nat) (hr : r < R) => specHazardsIn_any ⟨⟨wd, hg, ps⟩, is, os⟩ (mcv wd hg (.slice pA ps.length pC) (.slice iA is.length iC) (.slice oA os.length oC)) (r : Int) b u h.m.mv HOK.out (by show ps.length ≤ 10000000; omega) (by show is.length ≤ 10000000; omega) (by show os.length ≤ 10000000; omega)
    have KH := Lib.hid KH0
    have KJ := Lib.hid KJ0
    clear KH0 KJ0
    go_wp2_with fail
    go_loopw [21] (fun i wr => ∃ r : Nat, r ≤ R ∧ i = .int .i64 (r : Int) ∧ SyS w wr bx wd hg (.slice pA ps.length pC) (.slice iA is.length iC) (.slice oA os.length oC) ⟨⟨wd, hg, ps⟩, is, os⟩ a1 more ∧ SV N64_cells wr (.slice (some ⟨g0, 0, none⟩) is.length is.length) (zeros is.length)) (fun i _ => R - (intOf i).toNat)
    case atStart => exact ⟨0, by omega, rfl, HS.out, HN.out⟩
    case round =>
      clear HS HN
      obtain ⟨r, hr, rfl, hs0, hn0⟩ := hrel
      obtain ⟨W1, hW1⟩ : ∃ W1, W1 = wr := ⟨_, rfl⟩
      subst hW1
      have HS := Lib.hid hs0
      have HN := Lib.hid hn0
      clear hs0 hn0
      by_cases hlt : (r : Int) < (R : Int)
      · have hrR : r < R := by omega
        have hrM : r < mRows ⟨⟨wd, hg, ps⟩, is, os⟩ := by rw [HR.out]; exact hrR
        obtain ⟨A, hA⟩ : ∃ A : Int, A = (mOut ⟨⟨wd, hg, ps⟩, is, os⟩ r (zeros is.length) : Int) := ⟨_, rfl⟩
        have HP1a := fun (u : World) (h : SyS w u bx wd hg (.slice pA ps.length pC) (.slice iA is.length iC) (.slice oA os.length oC) ⟨⟨wd, hg, ps⟩, is, os⟩ a1 more) (al : Option Addr) (n cl : Nat) (hs : SV N64_cells u (.slice al n cl) (zeros is.length)) => KO.out u h r (zeros is.length) al n cl hs hrM (zeros_in is.length).1 (zeros_in is.length).2
        simp only [← hA] at HP1a
        have HP1 := Lib.hid HP1a
        have HA := Lib.hid hA
        obtain ⟨z1, z2⟩ := hz_ok ⟨⟨wd, hg, ps⟩, is, os⟩ r b HV.out hrM hb14
        obtain ⟨hl, hhl⟩ : ∃ x, x = hzList ⟨⟨wd, hg, ps⟩, is, os⟩ r b := ⟨_, rfl⟩
        have KH1 := fun (u : World) (h : SyS w u bx wd hg (.slice pA ps.length pC) (.slice iA is.length iC) (.slice oA os.length oC) ⟨⟨wd, hg, ps⟩, is, os⟩ a1 more) => KH.out u h r hrR
        have KJ1 := fun (u : World) (h : SyS w u bx wd hg (.slice pA ps.length pC) (.slice iA is.length iC) (.slice oA os.length oC) ⟨⟨wd, hg, ps⟩, is, os⟩ a1 more) => KJ.out u h r hrR
        simp only [z1, ← hhl] at KH1 KJ1
        have KH2 := Lib.hid KH1
        have KJ2 := Lib.hid KJ1
        have HHL : Hid (hl = hzTo (hzP ⟨⟨wd, hg, ps⟩, is, os⟩ r b) is.length) := Lib.hid (by rw [hhl, z2])
        have hl3 : hl.length ≤ 3 := by rw [HHL.out]; have := hzTo_len (hzP ⟨⟨wd, hg, ps⟩, is, os⟩ r b) is.length; omega
        clear HP1a hA z1 z2 hhl KH1 KJ1
        obtain ⟨x0, x1, x2, x3, x4, x5⟩ := HS.out.x
        go_wp2_with fail
        refine (HP1.out _ HS.out _ _ _ HN.out).mono ?_
        rintro e u8 ⟨rfl, hb8⟩
        have HS8 := Lib.hid (HS.out.step hb8)
        have HN8 := Lib.hid (HN.out.step hb8)
        clear x0 x1 x2 x3 x4 x5 hb8 HS HN HP1
        obtain ⟨x0, x1, x2, x3, x4, x5⟩ := HS8.out.x
        go_wp2_with fail
        refine (KH2.out _ HS8.out).mono ?_
        rintro e u9 ⟨vh, rfl, hownh, hb9⟩
        have HS9 := Lib.hid (HS8.out.step hb9)
        have HN9 := Lib.hid (HN8.out.step hb9)
        have HH9 := Lib.hid (own_svN hownh rfl)
        obtain ⟨hA', hC', rfl, -⟩ := own_at hownh
        clear x0 x1 x2 x3 x4 x5 hb9 hownh HS8 HN8 KH2
        obtain ⟨x0, x1, x2, x3, x4, x5⟩ := HS9.out.x
        go_wp2_with fail
        refine (KJ2.out _ HS9.out).mono ?_
        rintro e v1 ⟨vm, rfl, hownm, hb10⟩
        have HSa := Lib.hid (HS9.out.step hb10)
        have HNa := Lib.hid (HN9.out.step hb10)
        have HHa := Lib.hid (HH9.out.step hb10)
        have HMa := Lib.hid (own_svN hownm rfl)
        obtain ⟨mA, mC, rfl, -⟩ := own_at hownm
        clear x0 x1 x2 x3 x4 x5 hb10 hownm HS9 HN9 HH9 KJ2
        have HSL : Hid (Calls Tryz.prog 28 #[.slice hA' hl.length hC', .slice mA hl.length mC] v1 fun e w' => e = .returned (.bool true) ∧ Below v1.heap.size v1 w') := Lib.hid (by
          have := sameList_any (.slice hA' hl.length hC') (.slice mA hl.length mC) hl hl v1 HHa.out HMa.out (by omega) (by omega)
          rw [decide_eq_true rfl] at this
          exact this)
        go_upto_region 25 with fail
        go_cut [186] from 128 to 215 (fun s186 wx => s186 = .bool false ∧ SyS w wx bx wd hg (.slice pA ps.length pC) (.slice iA is.length iC) (.slice oA os.length oC) ⟨⟨wd, hg, ps⟩, is, os⟩ a1 more ∧ SV N64_cells wx (.slice (some ⟨g0, 0, none⟩) is.length is.length) (zeros is.length) ∧ SV N64_cells wx (.slice mA hl.length mC) hl)
        case first =>
          by_cases hpos : 0 < hl.length
          · have h0 : decide ((hl.length : Int) > 0) = true := decide_eq_true (by omega)
            have h01 : (hl.length : Int) > 0 := by omega
            obtain ⟨i, hi, hpi⟩ := hzTo_pos (hzP ⟨⟨wd, hg, ps⟩, is, os⟩ r b) is.length (by rw [← HHL.out]; exact hpos)
            have h2i : 2 ^ i < mRows ⟨⟨wd, hg, ps⟩, is, os⟩ := by rw [HR.out, HR2.out]; exact Nat.pow_lt_pow_right (by omega) hi
            rw [hzP_usP] at hpi
            rcases HUSh.out with ⟨-, -, -, hno⟩ | ⟨r0, c0, hr0, hc0, huc, hur, -, -, hmin⟩
            · rw [hno r hrM _ h2i] at hpi
              cases hpi
            · subst huc
              subst hur
              have hge : ¬ (r : Int) < (r0 : Int) := by
                intro h
                rw [hmin r (by omega) _ h2i] at hpi
                cases hpi
              have hge2 : decide ((r : Int) < (r0 : Int)) = false := decide_eq_false hge
              have hge3 : decide (r < r0) = false := decide_eq_false (by omega)
              clear hpi hmin hpos
              go_wp2_with fail
              refine HSL.out.mono ?_
              rintro e v2 ⟨rfl, hb11⟩
              go_wp2_with fail
              go_meet
              exact ⟨by first | rfl | rw [hge3], HSa.out.step hb11, HNa.out.step hb11, HMa.out.step hb11⟩
          · have h0 : decide ((hl.length : Int) > 0) = false := decide_eq_false (by omega)
            have h01 : ¬ (hl.length : Int) > 0 := by omega
            clear hpos
            go_wp2_with fail
            refine HSL.out.mono ?_
            rintro e v2 ⟨rfl, hb11⟩
            go_wp2_with fail
            go_meet
            exact ⟨rfl, HSa.out.step hb11, HNa.out.step hb11, HMa.out.step hb11⟩
        case rest =>
          obtain ⟨rfl, hs2, hn2, hm2⟩ := hcut
          have HSb := Lib.hid hs2
          have HNb := Lib.hid hn2
          have HMb := Lib.hid hm2
          clear hs2 hn2 hm2 HSa HNa HHa HMa HSL
          go_wp2_with fail
          go_loopw [28] (fun i wi => ∃ j : Nat, j ≤ is.length ∧ i = .int .i64 (j : Int) ∧ SyS w wi bx wd hg (.slice pA ps.length pC) (.slice iA is.length iC) (.slice oA os.length oC) ⟨⟨wd, hg, ps⟩, is, os⟩ a1 more ∧ SV N64_cells wi (.slice (some ⟨g0, 0, none⟩) is.length is.length) (zeros is.length) ∧ SV N64_cells wi (.slice mA hl.length mC) hl) (fun i _ => is.length - (intOf i).toNat)
          case atStart => exact ⟨0, by omega, rfl, HSb.out, HNb.out, HMb.out⟩
          case round =>
            clear HSb HNb HMb
            obtain ⟨j, hj, rfl, hs2, hn2, hm2⟩ := hrel
            obtain ⟨W2, hW2⟩ : ∃ W2, W2 = wr := ⟨_, rfl⟩
            subst hW2
            have HS := Lib.hid hs2
            have HN := Lib.hid hn2
            have HM := Lib.hid hm2
            clear hs2 hn2 hm2
            by_cases hlt2 : (j : Int) < (is.length : Int)
            · have hjn : j < is.length := by omega
              obtain ⟨B, hB⟩ : ∃ B, B = hzP ⟨⟨wd, hg, ps⟩, is, os⟩ r b j := ⟨_, rfl⟩
              obtain ⟨C, hC⟩ : ∃ C : Int, C = (mOut ⟨⟨wd, hg, ps⟩, is, os⟩ r ((zeros is.length).set j b) : Int) := ⟨_, rfl⟩
              have hCA : (C != A) = B := by rw [hB, hC, HA.out]; unfold hzP; rw [lbList_one is.length j b hjn]
              have HHN : Hid (decide ((j : Int) ∈ hl) = B) := Lib.hid (by rw [HHL.out, hzTo_iff _ _ _ hjn, hB])
              have hin : ((zeros is.length).set j b).length = is.length ∧ ∀ x ∈ (zeros is.length).set j b, 0 ≤ x ∧ x ≤ 100 := by rw [← lbList_one is.length j b hjn]; exact lb_in is.length (2 ^ j) b hb14
              have HP1a := fun (u : World) (h : SyS w u bx wd hg (.slice pA ps.length pC) (.slice iA is.length iC) (.slice oA os.length oC) ⟨⟨wd, hg, ps⟩, is, os⟩ a1 more) (al : Option Addr) (n cl : Nat) (hs : SV N64_cells u (.slice al n cl) ((zeros is.length).set j b)) => KO.out u h r ((zeros is.length).set j b) al n cl hs hrM hin.1 hin.2
              simp only [← hC] at HP1a
              have HP1 := Lib.hid HP1a
              have hin1 := Lib.hid hin
              clear hB hC hin HP1a
              go_upto_region 31 with (refine wpList_make_full _ rfl (.tmp 192) (.tmp 192) 34 rfl W2.heap.size 2 i0 _ 1 Tryz.underlying34 hi0 hiz0 hiz1 _ _ _ _ is.length rfl rfl rfl rfl (by rw [hiz2]; omega) (by unfold maxLen; omega) (Nat.le_refl _) ?_; intro u7 hmade7 hgrow7)
              rw [made_rep _ rfl, ← flat_zeros] at hmade7
              have hb7 : Below W2.heap.size W2 u7 := bl_grown (Below.refl _ _) hgrow7 (by simp)
              obtain ⟨gq, hgq⟩ : ∃ gq, gq = W2.heap.size := ⟨_, rfl⟩
              have hbq : Below W2.heap.size W2 (u7.setCell ⟨gq, j, none⟩ (.int .i64 b)) := hb7.setCell (by rw [hgq]; exact Nat.le_refl _) _
              rw [← hgq] at hmade7 ⊢
              obtain ⟨⟨v0, q0⟩, q1⟩ := own_cell hmade7 (j := j) (by omega)
              have HLA := Lib.hid (own_svN (n64_set hmade7 j b) hin1.out.1.symm)
              have HS7 := Lib.hid (HS.out.step hbq)
              have HN7 := Lib.hid (HN.out.step hbq)
              have HM7 := Lib.hid (HM.out.step hbq)
              obtain ⟨x0, x1, x2, x3, x4, x5⟩ := (HS.out.step hb7).x
              have hbxq : bx < gq := by rw [hgq]; exact HS.out.x.1
              have hbxq2 : bx ≠ gq := by omega
              clear hmade7 hgrow7 hb7 hgq HS HN HM hbq
              go_wp2_with fail
              refine (HP1.out _ HS7.out _ _ _ HLA.out).mono ?_
              rintro e v3 ⟨rfl, hb12⟩
              have HS8 := Lib.hid (HS7.out.step hb12)
              have HN8 := Lib.hid (HN7.out.step hb12)
              have HM8 := Lib.hid (HM7.out.step hb12)
              clear x0 x1 x2 x3 x4 x5 hb12 HS7 HN7 HM7 HP1 HLA q0 q1
              have HHS : Hid (Calls Tryz.prog 32 #[.slice mA hl.length mC, .int .i64 (j : Int)] v3 fun e w' => e = .returned (.bool B) ∧ v3 = w') := Lib.hid (by
                obtain ⟨h9, -⟩ := sv_n64 HM8.out
                have := hasNumber_any (.slice mA hl.length mC) hl (j : Int) v3 ⟨mA, mC, rfl, _, h9⟩ (by omega)
                rw [HHN.out] at this
                exact this)
              go_wp2_with fail
              refine HHS.out.mono ?_
              rintro e w' ⟨rfl, rfl⟩
              cases B with
              | true =>
                go_wp2_with fail
                go_roundw
                case rel => exact ⟨j + 1, by omega, by go_num, HS8.out, HN8.out, HM8.out⟩
                case measure => simp [intOf]; omega
              | false =>
                go_wp2_with fail
                go_roundw
                case rel => exact ⟨j + 1, by omega, by go_num, HS8.out, HN8.out, HM8.out⟩
                case measure => simp [intOf]; omega
            · go_wp2_with fail
              go_roundw
              case rel => exact ⟨r + 1, by omega, by go_num, HS.out, HN.out⟩
              case measure => simp [intOf]; omega
      · obtain ⟨ch, hch⟩ : ∃ ch, ch = 2 ^ is.length - 1 := ⟨_, rfl⟩
        have HTB : Hid (∀ j, j < is.length → ch.testBit j = true) := Lib.hid (fun j hj => by rw [hch, Nat.testBit_two_pow_sub_one]; simpa using hj)
        have HAL : Hid (lbSt is.length ch b is.length = List.replicate is.length b) := Lib.hid (by rw [hch]; exact all_bits is.length b)
        clear hch
        go_upto_region 36 with (refine wpList_make_full _ rfl (.tmp 216) (.tmp 216) 34 rfl W1.heap.size 2 i0 _ 1 Tryz.underlying34 hi0 hiz0 hiz1 _ _ _ _ is.length rfl rfl rfl rfl (by rw [hiz2]; omega) (by unfold maxLen; omega) (Nat.le_refl _) ?_; intro u7 hmade7 hgrow7)
        rw [made_rep _ rfl, ← flat_zeros, ← lbSt_zero is.length ch b] at hmade7
        have hb7 : Below W1.heap.size W1 u7 := bl_grown (Below.refl _ _) hgrow7 (by simp)
        obtain ⟨gq, hgq⟩ : ∃ gq, gq = W1.heap.size := ⟨_, rfl⟩
        rw [← hgq] at hmade7 ⊢
        have HMD := Lib.hid hmade7
        have HB7 := Lib.hid hb7
        have hgq2 : W1.heap.size ≤ gq := by omega
        clear hmade7 hgrow7 hb7 hgq hlt
        go_wp2_with fail
        go_loopw [33] (fun i wi => ∃ j : Nat, j ≤ is.length ∧ i = .int .i64 (j : Int) ∧ wi.ownsRow gq 2 1 (.slice (some ⟨gq, 0, none⟩) is.length is.length) is.length (flat N64_cells (lbSt is.length ch b j)) ∧ Below W1.heap.size W1 wi) (fun i _ => is.length - (intOf i).toNat)
        case atStart => exact ⟨0, by omega, rfl, HMD.out, HB7.out⟩
        case round =>
          clear HMD HB7
          obtain ⟨j, hj, rfl, hown, hbw⟩ := hrel
          obtain ⟨W2, hW2⟩ : ∃ W2, W2 = wr := ⟨_, rfl⟩
          subst hW2
          by_cases hlt2 : (j : Int) < (is.length : Int)
          · have hjn : j < is.length := by omega
            obtain ⟨⟨v0, q0⟩, q1⟩ := own_cell hown (j := j) (by omega)
            have hown2 := n64_set hown j b
            rw [lbSt_yes is.length ch b j hjn (HTB.out j hjn)] at hown2
            have HO2 := Lib.hid hown2
            have HB2 := Lib.hid (bl_set hbw (p := ⟨gq, j, none⟩) hgq2 (.int .i64 b))
            clear hown hown2 hbw
            go_wp2_with fail
            go_roundw
            case rel => exact ⟨j + 1, by omega, by go_num, HO2.out, HB2.out⟩
            case measure => simp [intOf]; omega
          · have hjl : j = is.length := by omega
            rw [hjl, HAL.out] at hown
            have HS2 := Lib.hid (HS.out.step hbw)
            have HN2 := Lib.hid (HN.out.step hbw)
            have HA2 := Lib.hid (own_svN hown (by simp))
            clear hown hbw HS HN hlt2
            have hRN : (R : Int) ≤ 1000000 := by omega
            go_wp2_with fail
            refine (p6Pick_any a1 cap1 more (R : Int) hRN W2 HS2.out.q B1).mono ?_
            rintro e u8 ⟨rr', rfl, r0, r1, hb8⟩
            have hR1 : 1 ≤ R := by rw [HR2.out]; exact Nat.one_le_two_pow
            obtain ⟨rr, rfl⟩ : ∃ rr : Nat, rr' = (rr : Int) := ⟨rr'.toNat, by omega⟩
            have hrr : rr < mRows ⟨⟨wd, hg, ps⟩, is, os⟩ := by rw [HR.out]; omega
            have HS3 := Lib.hid (HS2.out.step hb8)
            have HN3 := Lib.hid (HN2.out.step hb8)
            have HA3 := Lib.hid (HA2.out.step hb8)
            obtain ⟨A, hA⟩ : ∃ A : Int, A = (mOut ⟨⟨wd, hg, ps⟩, is, os⟩ rr (zeros is.length) : Int) := ⟨_, rfl⟩
            have hall : (mOut ⟨⟨wd, hg, ps⟩, is, os⟩ rr (List.replicate is.length b) : Int) = A := by
              rw [hA]
              have := mOut_all ⟨⟨wd, hg, ps⟩, is, os⟩ rr b HV.out HOK.out (by omega) (by omega)
              have h9 : mOut ⟨⟨wd, hg, ps⟩, is, os⟩ rr (List.replicate is.length b) = mOut ⟨⟨wd, hg, ps⟩, is, os⟩ rr (zeros is.length) := this
              rw [h9]
            have HP1a := fun (u : World) (h : SyS w u bx wd hg (.slice pA ps.length pC) (.slice iA is.length iC) (.slice oA os.length oC) ⟨⟨wd, hg, ps⟩, is, os⟩ a1 more) (al : Option Addr) (n cl : Nat) (hs : SV N64_cells u (.slice al n cl) (zeros is.length)) => KO.out u h rr (zeros is.length) al n cl hs hrr (zeros_in is.length).1 (zeros_in is.length).2
            have HP2a := fun (u : World) (h : SyS w u bx wd hg (.slice pA ps.length pC) (.slice iA is.length iC) (.slice oA os.length oC) ⟨⟨wd, hg, ps⟩, is, os⟩ a1 more) (al : Option Addr) (n cl : Nat) (hs : SV N64_cells u (.slice al n cl) (List.replicate is.length b)) => KO.out u h rr (List.replicate is.length b) al n cl hs hrr (rep_in is.length b hb14).1 (rep_in is.length b hb14).2
            simp only [← hA] at HP1a
            simp only [hall] at HP2a
            have HP1 := Lib.hid HP1a
            have HP2 := Lib.hid HP2a
            clear HP1a HP2a hA hall hb8 HS2 HN2 HA2 r0 r1
            obtain ⟨x0, x1, x2, x3, x4, x5⟩ := HS3.out.x
            go_wp2_with fail
            refine (HP1.out _ HS3.out _ _ _ HN3.out).mono ?_
            rintro e u9 ⟨rfl, hb9⟩
            have HS4 := Lib.hid (HS3.out.step hb9)
            have HA4 := Lib.hid (HA3.out.step hb9)
            clear x0 x1 x2 x3 x4 x5 hb9 HS3 HN3 HA3 HP1
            obtain ⟨x0, x1, x2, x3, x4, x5⟩ := HS4.out.x
            go_wp2_with fail
            refine (HP2.out _ HS4.out _ _ _ HA4.out).mono ?_
            rintro e v1 ⟨rfl, hb10⟩
            have HS5 := Lib.hid (HS4.out.step hb10)
            clear x0 x1 x2 x3 x4 x5 hb10 HS4 HA4 HP2
            go_wp2
            go_ret
            exact ⟨by simp, HS5.out.b⟩
end Go.Proofs.YtmeefmoblkiebaaGreat
