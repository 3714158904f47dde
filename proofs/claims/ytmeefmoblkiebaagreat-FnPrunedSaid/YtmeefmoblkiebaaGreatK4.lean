import Derived.Test.YtmeefmoblkiebaaGreatK3
import Derived.Deep.DeepFit
import Derived.DeepKeys
/- Contracts: the stage of a board. -/
namespace Go.Proofs.YtmeefmoblkiebaaGreat
open Go.RowKit
set_option linter.unusedVariables false
set_option linter.unusedSimpArgs false
set_option maxHeartbeats 400000
set_option maxRecDepth 100000
theorem vBd_cell (l : Bd) (h : vBd l = true) (k : Nat) (hk : k < l.ps.length) : 0 ≤ l.ps[k].x ∧ l.ps[k].x < 24 ∧ 0 ≤ l.ps[k].y ∧ l.ps[k].y < 24 := by
  obtain ⟨c1, c2, c3, c4, -⟩ := vBd_bounds l h
  unfold vBd at h
  simp only [Bool.and_eq_true] at h
  have := h.1.2
  rw [List.all_eq_true] at this
  have h5 := this _ (List.getElem_mem hk)
  simp only [Bool.and_eq_true] at h5
  have h6 := h5.2
  unfold cIn inB Pc.at_ at h6
  simp only [Bool.and_eq_true, decide_eq_true_eq] at h6
  omega
theorem sv_own {α : Type} {f : α → List Value} {w : World} {base : Nat} {e : TypeId} {size : Nat} {v : Value} {xs : List α} (h : w.ownsRow base e size v xs.length (flat f xs)) : SV f w v xs := by
  obtain ⟨a, cap, rfl, h1, -, -⟩ := own_at h
  exact ⟨a, cap, rfl, h1⟩
theorem run_place {w : World} {m : Nat} {ps : List Pc} {kv : List (Ce × Value)} (hm : MapAt w m kv) (hp : PlaceOk ps kv) (c : Ce) : (Instr.lookup 184 (.map (some m)) c.val true).run Tryz.prog w = .ok (.tuple #[.int .i64 (max (fnd c ps) 0), .bool (decide (0 ≤ fnd c ps))]) w := by
  obtain ⟨h, -⟩ := ceTy
  have h1 := run_lookup_ce h Tryz.underlying184 (.int .i64 0) (fun w => by kernel_rfl) hm c true
  have h2 : ((mfind c kv 0).map (·.2)) = if 0 ≤ fnd c ps then some (.int .i64 (fnd c ps)) else none := hp c
  rw [h1]
  cases hf : mfind c kv 0 with
  | none =>
    rw [hf] at h2
    by_cases g : 0 ≤ fnd c ps
    · rw [if_pos g] at h2; cases h2
    · have e : max (fnd c ps) 0 = 0 := by omega
      rw [decide_eq_false g, e]; rfl
  | some p =>
    rw [hf] at h2
    by_cases g : 0 ≤ fnd c ps
    · rw [if_pos g] at h2
      have e : max (fnd c ps) 0 = fnd c ps := by omega
      simp only [Option.map_some, Option.some.injEq] at h2
      rw [decide_eq_true g, e]
      simp [h2]
    · rw [if_neg g] at h2; cases h2
theorem bl_gb {a b c : World} {q : Nat} (h : Below a.heap.size a b) (k : b.grownBy c (some q)) : a.grownBy c (some q) :=
  ⟨k.os.trans h.os, k.tape.trans h.tape, k.output.trans h.output, Nat.le_trans h.size k.size, fun i hi hn => (k.block i (Nat.lt_of_lt_of_le hi h.size) hn).trans (h.block i hi)⟩
/-- What is kept while one elder block turns. -/
def KpPs (w : World) (b0 : Nat) (l : Bd) (q : Nat) : Prop := q < w.heap.size ∧ ∀ sa cap, w.cell? ⟨b0, 2, none⟩ = some (.slice sa l.ps.length cap) → ∀ w2, w.grownBy w2 (some q) → SlAt w2.heap.size w2 sa (flat Pc.cells l.ps)
set_option maxHeartbeats 3200000 in
theorem stageOf_kp (b0 : Nat) (l : Bd) (w : World) (hbp : BP w b0 l) (hv : vBd l = true) :
    Calls Tryz.prog 98 #[.pointer (some ⟨b0, 0, none⟩)] w fun e w' => ∃ g, e = .returned (.pointer (some ⟨g, 0, none⟩)) ∧ w.heap.size ≤ g ∧ (StAt w' g l ∧ ∀ q, KpPs w b0 l q → ∀ w2, w'.grownBy w2 (some q) → StAt w2 g l) ∧ Below w.heap.size w w' := by
  have HBP := Lib.hid hbp
  obtain ⟨hbl, sv, hbd, sa, scap, rfl, hps⟩ := hbp
  unfold BdAt at hbd
  have HC2 := Lib.hid hbd.2.2
  obtain ⟨c1, c2, c3, c4, c5⟩ := vBd_bounds l hv
  have hnd : (l.ps.map Pc.at_).Nodup := by
    unfold vBd at hv
    simp only [Bool.and_eq_true, decide_eq_true_eq] at hv
    exact hv.2
  have HND := Lib.hid hnd
  clear hnd
  obtain ⟨hcty, -⟩ := ceTy
  have hmm := @run_makeMap Tryz.prog
  go_enter Tryz.func98, Tryz.ntmps98
  go_wp2
  go_loopw [29] (fun i wr => ∃ k : Nat, ∃ kv : List (Ce × Value), k ≤ l.ps.length ∧ i = .int .i64 k ∧ Hid (PlaceOk (l.ps.take k) kv) ∧ MapAt wr (w.heap.size + 1) kv ∧ w.heap.size + 1 < wr.heap.size ∧ wr.ownsRow w.heap.size 183 4 (.slice (some ⟨w.heap.size, 0, none⟩) 1 1) 1 [.slice sa l.ps.length scap, .slice none 0 0, .slice none 0 0, .slice none 0 0] ∧ Below w.heap.size w wr) (fun i _ => l.ps.length - (intOf i).toNat)
  case atStart =>
    refine ⟨0, [], by omega, rfl, Lib.hid placeOk_nil, by have := map_new (w.alloc (.cells #[.slice sa l.ps.length scap, .slice none 0 0, .slice none 0 0, .slice none 0 0] 183)); simpa using this, by simp, ?_, (by repeat (first | with_reducible exact Below.refl _ _ | with_reducible assumption | with_reducible apply bl_drewN | with_reducible apply bl_drew | with_reducible apply bl_alloc | (with_reducible refine bl_set ?_ (by first | (simp; done) | (simp; omega)) _) | with_reducible refine bl_trans ?_ (by with_reducible assumption)))⟩
    exact own_below (own_newAt w #[.slice sa l.ps.length scap, .slice none 0 0, .slice none 0 0, .slice none 0 0] 183 4 w.heap.size w.heap.size rfl (Nat.le_refl _) rfl _ rfl) (bl_alloc (Below.refl _ _)) (Nat.le_refl _)
  case round =>
    clear hmm
    obtain ⟨k, kv, hk, rfl, hpl, hmap, hsz, hown, hb⟩ := hrel
    by_cases hlt : k < l.ps.length
    · obtain ⟨b', off, rfl, hbl', hat⟩ := pcs_get (hps.below hb (Nat.le_refl _)) hlt
      unfold PcAt at hat
      have hm0 := map_alloc hmap (.cells #[.int .i8 l.ps[k].x, .int .i8 l.ps[k].y, .int .i8 l.ps[k].k, .int .i8 l.ps[k].t, .int .i8 l.ps[k].d] 49)
      go_wp2_with (at_mapUpdate; refine wpList_update_ce _ rfl _ _ _ 184 rfl hcty Tryz.underlying184 _ _ rfl hm0 ⟨l.ps[k].x, l.ps[k].y⟩ (.int .i64 k) rfl rfl ?_; intro w5 hm5 hg5 hz5)
      simp at hz5
      have hown5 := own_kept (own_below hown (bl_alloc (o := .cells #[.int .i8 l.ps[k].x, .int .i8 l.ps[k].y, .int .i8 l.ps[k].k, .int .i8 l.ps[k].t, .int .i8 l.ps[k].d] 49) (Below.refl _ wr)) (Nat.le_refl _)) hg5 (by intro q hq e; have h9 : some w.heap.size = some q := hq; rw [← h9] at e; simp at e)
      have hb5 : Below w.heap.size w w5 := bl_grown (bl_alloc hb) hg5 (fun j hj => by cases hj; omega)
      refine ⟨⟨k + 1, _, by omega, by go_num, Lib.hid (placeOk_succ l.ps HND.out k hlt kv hpl.out), hm5, by omega, hown5, hb5⟩, by simp [intOf]; omega⟩
    · have hkn : k = l.ps.length := by omega
      subst hkn
      rw [List.take_length] at hpl
      obtain ⟨W0, hW0⟩ : ∃ W, W = wr := ⟨_, rfl⟩
      subst hW0
      obtain ⟨hc, hf⟩ := bcell hb
      go_wp2
      go_loopw [44] (fun i wr => ∃ k : Nat, ∃ v1 v2 v3 : Value, k ≤ l.ps.length ∧ i = .int .i64 k ∧ wr.ownsRow w.heap.size 183 4 (.slice (some ⟨w.heap.size, 0, none⟩) 1 1) 1 [.slice sa l.ps.length scap, v1, v2, v3] ∧ wr.ownsRow (w.heap.size + 2) 185 1 v1 k (flat canC (l.ps.take k)) ∧ wr.ownsRow (w.heap.size + 2) 186 4 v2 k (flat hitC (l.ps.take k)) ∧ wr.ownsRow (w.heap.size + 2) 187 4 v3 k (flat (besC l.ps) (l.ps.take k)) ∧
        MapAt wr (w.heap.size + 1) kv ∧ (∀ q, v1.ownBlock = some q → v2.ownBlock ≠ some q ∧ v3.ownBlock ≠ some q) ∧ (∀ q, v2.ownBlock = some q → v3.ownBlock ≠ some q) ∧ w.heap.size + 1 < wr.heap.size ∧ Below w.heap.size w wr) (fun i _ => l.ps.length - (intOf i).toNat)
      case atStart => exact ⟨0, .slice none 0 0, .slice none 0 0, .slice none 0 0, by omega, rfl, hown, World.ownsRow_nil _ _ _ _, World.ownsRow_nil _ _ _ _, World.ownsRow_nil _ _ _ _, hmap, (fun q hq => by cases hq), (fun q hq => by cases hq), hsz, hb⟩
      case round =>
        clear hmap hown hb hsz
        obtain ⟨k, v1, v2, v3, hk, rfl, hst, hr1, hr2, hr3, hmap, hd1, hd2, hsz, hb⟩ := hrel
        by_cases hlt : k < l.ps.length
        · obtain ⟨b', off, rfl, hbl', hat⟩ := pcs_get (hps.below hb (Nat.le_refl _)) hlt
          unfold PcAt at hat
          have hvk := vBd_piece2 l hv k hlt
          have hPc := vBd_cell l hv k hlt
          obtain ⟨k1, k2, k3, k4, k5, k6⟩ := hvk
          go_upto_region 11 with fail
          have hh := heap_alloc_new wr (.cells #[.int .i8 l.ps[k].x, .int .i8 l.ps[k].y, .int .i8 l.ps[k].k, .int .i8 l.ps[k].t, .int .i8 l.ps[k].d] 49)
          have hb9 : Below w.heap.size w (wr.alloc (.cells #[.int .i8 l.ps[k].x, .int .i8 l.ps[k].y, .int .i8 l.ps[k].k, .int .i8 l.ps[k].t, .int .i8 l.ps[k].d] 49)) := bl_alloc hb
          have hbo : Below wr.heap.size wr (wr.alloc (.cells #[.int .i8 l.ps[k].x, .int .i8 l.ps[k].y, .int .i8 l.ps[k].k, .int .i8 l.ps[k].t, .int .i8 l.ps[k].d] 49)) := bl_alloc (Below.refl _ _)
          have hst9 := own_below hst hbo (Nat.le_refl _)
          have hr19 := own_below hr1 hbo (Nat.le_refl _)
          have hr29 := own_below hr2 hbo (Nat.le_refl _)
          have hr39 := own_below hr3 hbo (Nat.le_refl _)
          have hm9 := map_alloc hmap (.cells #[.int .i8 l.ps[k].x, .int .i8 l.ps[k].y, .int .i8 l.ps[k].k, .int .i8 l.ps[k].t, .int .i8 l.ps[k].d] 49)
          have hz9 : (wr.alloc (.cells #[.int .i8 l.ps[k].x, .int .i8 l.ps[k].y, .int .i8 l.ps[k].k, .int .i8 l.ps[k].t, .int .i8 l.ps[k].d] 49)).heap.size = wr.heap.size + 1 := by simp
          have hl1 : ∀ q, v1.ownBlock = some q → q < wr.heap.size := fun q hq => (hr1.lt q hq).2
          have hl2 : ∀ q, v2.ownBlock = some q → q < wr.heap.size := fun q hq => (hr2.lt q hq).2
          have hl3 : ∀ q, v3.ownBlock = some q → q < wr.heap.size := fun q hq => (hr3.lt q hq).2
          obtain ⟨W9, hW9⟩ : ∃ W, W = wr.alloc (.cells #[.int .i8 l.ps[k].x, .int .i8 l.ps[k].y, .int .i8 l.ps[k].k, .int .i8 l.ps[k].t, .int .i8 l.ps[k].d] 49) := ⟨_, rfl⟩
          rw [← hW9] at hh hb9 hst9 hr19 hr29 hr39 hm9 hz9 ⊢
          obtain ⟨b8, hb8⟩ : ∃ b, b = wr.heap.size := ⟨_, rfl⟩
          rw [← hb8] at hh hz9 hl1 hl2 hl3 hsz ⊢
          clear hW9 hbo hst hr1 hr2 hr3 hmap hb hb8
          have y0 : W9.cell? ⟨b8, 0, none⟩ = some (.int .i8 l.ps[k].x) := by rw [cell_of_row _ _ _ _ _ _ hh]; rfl
          have y1 : W9.cell? ⟨b8, 1, none⟩ = some (.int .i8 l.ps[k].y) := by rw [cell_of_row _ _ _ _ _ _ hh]; rfl
          have y2 : W9.cell? ⟨b8, 2, none⟩ = some (.int .i8 l.ps[k].k) := by rw [cell_of_row _ _ _ _ _ _ hh]; rfl
          have y3 : W9.cell? ⟨b8, 3, none⟩ = some (.int .i8 l.ps[k].t) := by rw [cell_of_row _ _ _ _ _ _ hh]; rfl
          have y4 : W9.cell? ⟨b8, 4, none⟩ = some (.int .i8 l.ps[k].d) := by rw [cell_of_row _ _ _ _ _ _ hh]; rfl
          have o10 := own_below (own_newAt W9 #[.int .u8 0, .int .u8 0, .int .u8 0, .int .u8 0] 186 4 (b8 + 1) (b8 + 1) hz9.symm (Nat.le_refl _) rfl _ rfl) (bl_alloc (o := .cells #[.int .i64 0, .int .i64 0, .int .i64 0, .int .i64 0] 187) (Below.refl _ _)) (Nat.le_refl _)
          have o11 := own_newAt (W9.alloc (.cells #[.int .u8 0, .int .u8 0, .int .u8 0, .int .u8 0] 186)) #[.int .i64 0, .int .i64 0, .int .i64 0, .int .i64 0] 187 4 (b8 + 1) (b8 + 1 + 1) (by simp [hz9]) (by omega) rfl _ rfl
          have hbz : Below W9.heap.size W9 ((W9.alloc (.cells #[.int .u8 0, .int .u8 0, .int .u8 0, .int .u8 0] 186)).alloc (.cells #[.int .i64 0, .int .i64 0, .int .i64 0, .int .i64 0] 187)) := bl_alloc (bl_alloc (Below.refl _ _))
          clear hh
          have HST := Lib.hid hst9
          have HR1 := Lib.hid hr19
          have HR2 := Lib.hid hr29
          have HR3 := Lib.hid hr39
          have HM := Lib.hid hm9
          have HB9 := Lib.hid hb9
          have HD1 := Lib.hid hd1
          have HD2 := Lib.hid hd2
          clear hst9 hr19 hr29 hr39 hm9 hb9 hd1 hd2
          obtain ⟨P, hP⟩ : ∃ P, P = l.ps[k] := ⟨_, rfl⟩
          rw [← hP] at y0 y1 y2 y3 y4 k1 k2 k3 k4 k5 k6 hPc ⊢
          have hPok : (⟨P.x, P.y⟩ : Ce).ok := by constructor <;> constructor <;> simp only <;> omega
          have hzz : W9.heap.size = b8 + 1 := hz9
          have HP := Lib.hid hP
          clear hP
          have HPL := Lib.hid (show PlaceOk l.ps kv from hpl.out)
          go_wp2_with fail
          go_loopw [9, 50] (fun c s wx => ∃ m : Nat, m ≤ 4 ∧ s = .int .i64 m ∧ c = .int .u8 (canTo P m) ∧ wx.ownsRow (b8 + 1) 186 4 (.slice (some ⟨b8 + 1, 0, none⟩) 1 1) 1 (hitTo P m) ∧ wx.ownsRow (b8 + 1) 187 4 (.slice (some ⟨b8 + 1 + 1, 0, none⟩) 1 1) 1 (besTo l.ps P m) ∧ Below W9.heap.size W9 wx) (fun _ s _ => 4 - (intOf s).toNat)
          case atStart => exact ⟨0, by omega, rfl, rfl, o10, o11, hbz⟩
          case round =>
            clear o10 o11 hbz
            obtain ⟨m, hm, rfl, rfl, o10, o11, hbx⟩ := hrel
            obtain ⟨hcx, hfx⟩ := bcell hbx
            have hzx := hbx.size
            by_cases hlm : m < 4
            · have HF := Lib.hid (fun w' => falls_any P.x P.y P.k P.t P.d m k1 k2 k3 k4 (by omega) (by omega) w')
              go_wp2_with fail
              refine (HF.out _).mono ?_
              rintro e w1 ⟨rfl, hb1⟩
              have hbw1 := bl_trans hbx hb1
              have o10a := own_below o10 hb1 (Nat.le_refl _)
              have o11a := own_below o11 hb1 (Nat.le_refl _)
              have O10 := Lib.hid o10a
              have O11 := Lib.hid o11a
              have HBX := Lib.hid hbw1
              have HCS := Lib.hid (canTo_succ P m)
              obtain ⟨hvm, hhv⟩ : ∃ v, v = hv0 P m := ⟨_, rfl⟩
              rw [show max (hitsV P.k P.t (m : Int)) 0 = hv0 P m from rfl, ← hhv]
              have HHV := Lib.hid hhv
              have hz1 := hbw1.size
              clear o10 o11 hbx hb1 o10a o11a hbw1 hcx hfx hzx HF hhv
              rcases dec_cases (0 ≤ hitsV P.k P.t m) with ⟨g1, g1'⟩ | ⟨g1, g1'⟩
              · rw [g1]
                rw [if_pos g1'] at HCS
                clear g1'
                go_wp2_with fail
                refine (sides1_any _ m _ (by omega) (by omega)).mono ?_
                rintro e w2 ⟨rfl, rfl⟩
                have hb2 : Below w1.heap.size w1 (w1.alloc (.cells #[.int .i64 m] 3)) := bl_alloc (Below.refl _ _)
                have o10b := own_below O10.out hb2 (Nat.le_refl _)
                have o11b := own_below O11.out hb2 (Nat.le_refl _)
                have hbxb := bl_trans HBX.out hb2
                obtain ⟨X, hX⟩ : ∃ X, X = w1.alloc (.cells #[.int .i64 m] 3) := ⟨_, rfl⟩
                rw [← hX] at o10b o11b hbxb ⊢
                have O10b := Lib.hid o10b
                have O11b := Lib.hid o11b
                have HBXb := Lib.hid hbxb
                have hzX := hbxb.size
                clear hX hb2 o10b o11b hbxb
                obtain ⟨⟨v0, x0⟩, f0⟩ := own_cell O10b.out (j := m) (by omega)
                obtain ⟨⟨v4, x4⟩, f4⟩ := own_cell O11b.out (j := m) (by omega)
                go_upto_region 18 with fail
                have p10 := (O10b.out.stored m (.int .u8 hvm)).1
                have p10k := (O10b.out.stored m (.int .u8 hvm)).2
                have p11 := own_kept O11b.out p10k (by intro q hq e; have h9 : some (b8 + 1 + 1) = some q := hq; rw [← h9] at e; simp at e)
                have q11 := (p11.stored m (.int .i64 (-1))).1
                have q11k := (p11.stored m (.int .i64 (-1))).2
                have q10 := own_kept p10 q11k (by intro q hq e; have h9 : some (b8 + 1) = some q := hq; rw [← h9] at e; simp at e)
                have hb17 := bl_grown (bl_grown HBXb.out p10k (fun q hq => by cases hq; omega)) q11k (fun q hq => by cases hq; omega)
                clear p10 p10k p11 q11k x0 f0 x4 f4
                obtain ⟨W17, hW17⟩ : ∃ W, W = (X.setCell ⟨b8 + 1, m, none⟩ (.int .u8 hvm)).setCell ⟨b8 + 1 + 1, m, none⟩ (.int .i64 (-1)) := ⟨_, rfl⟩
                rw [← hW17] at q10 q11 hb17 ⊢
                clear hW17
                have Q10 := Lib.hid q10
                have Q11 := Lib.hid q11
                have HB17 := Lib.hid hb17
                obtain ⟨hc17, hf17⟩ := bcell hb17
                have hz17 := hb17.size
                clear q10 q11 hb17
                have HNX := Lib.hid (fun w' => next_any ⟨P.x, P.y⟩ hPok (m : Int) (by omega) (by omega) w')
                go_wp2_with fail
                refine (HNX.out _).mono ?_
                rintro e w3 ⟨rfl, hb3⟩
                have hb93 := bl_trans HB17.out hb3
                have Q10c := Lib.hid (own_below Q10.out hb3 (Nat.le_refl _))
                have Q11c := Lib.hid (own_below Q11.out hb3 (Nat.le_refl _))
                have HB93 := Lib.hid hb93
                have hz3 := hb93.size
                have hlk0 := run_place (map_below HM.out hb93 (by omega)) HPL.out (nxt ⟨P.x, P.y⟩ m)
                have hbv : besV l.ps P m = fnd (nxt ⟨P.x, P.y⟩ m) l.ps := rfl
                clear hb3 hb93 hc17 hf17
                obtain ⟨nx, hnx⟩ : ∃ nx, nx = nxt ⟨P.x, P.y⟩ m := ⟨_, rfl⟩
                rw [← hnx] at hlk0 hbv ⊢
                clear hnx
                rcases fnd_lo nx l.ps with gn | ⟨gn, gn2⟩
                · rw [gn] at hlk0 hbv
                  have hlk : (Instr.lookup 184 (.map (some (w.heap.size + 1))) (.agg #[.int .i8 nx.x, .int .i8 nx.y]) true).run Tryz.prog w3 = .ok (.tuple #[.int .i64 0, .bool false]) w3 := hlk0
                  have HBV := Lib.hid hbv
                  clear hlk0 hbv gn
                  go_wp2
                  go_roundw
                  case rel =>
                    refine ⟨m + 1, by omega, by go_num, by rw [HCS.out], ?_, ?_, HB93.out⟩
                    · rw [← hitTo_set P m hlm, ← HHV.out]; exact Q10c.out
                    · rw [← besTo_set l.ps P m hlm, HBV.out]; exact Q11c.out
                  case measure => simp [intOf]; omega
                · obtain ⟨fv, hfv⟩ : ∃ fv, fv = fnd nx l.ps := ⟨_, rfl⟩
                  rw [← hfv] at hlk0 hbv gn gn2
                  clear hfv
                  rw [decide_eq_true gn, show max fv 0 = fv by omega] at hlk0
                  have hlk : (Instr.lookup 184 (.map (some (w.heap.size + 1))) (.agg #[.int .i8 nx.x, .int .i8 nx.y]) true).run Tryz.prog w3 = .ok (.tuple #[.int .i64 fv, .bool true]) w3 := hlk0
                  have HBV := Lib.hid hbv
                  clear hlk0 hbv
                  obtain ⟨⟨v4, x4⟩, f4⟩ := own_cell Q11c.out (j := m) (by omega)
                  go_wp2
                  have r11 := (Q11c.out.stored m (.int .i64 fv)).1
                  have r11k := (Q11c.out.stored m (.int .i64 fv)).2
                  have r10 := own_kept Q10c.out r11k (by intro q hq e; have h9 : some (b8 + 1) = some q := hq; rw [← h9] at e; simp at e)
                  have hbe := bl_grown HB93.out r11k (fun q hq => by cases hq; omega)
                  clear x4 f4 r11k
                  go_roundw
                  case rel =>
                    refine ⟨m + 1, by omega, by go_num, by rw [HCS.out], ?_, ?_, hbe⟩
                    · rw [← hitTo_set P m hlm, ← HHV.out]; exact r10
                    · rw [← besTo_set l.ps P m hlm, HBV.out]; rw [List.set_set] at r11; exact r11
                  case measure => simp [intOf]; omega
              · rw [g1]
                rw [if_neg g1'] at HCS
                clear g1'
                obtain ⟨X, hX⟩ : ∃ X, X = w1 := ⟨_, rfl⟩
                rw [← hX] at O10 O11 HBX hz1 ⊢
                have O10b := Lib.hid O10.out
                have O11b := Lib.hid O11.out
                have HBXb := Lib.hid HBX.out
                have hzX := hz1
                clear hX
                obtain ⟨⟨v0, x0⟩, f0⟩ := own_cell O10b.out (j := m) (by omega)
                obtain ⟨⟨v4, x4⟩, f4⟩ := own_cell O11b.out (j := m) (by omega)
                go_upto_region 18 with fail
                have p10 := (O10b.out.stored m (.int .u8 hvm)).1
                have p10k := (O10b.out.stored m (.int .u8 hvm)).2
                have p11 := own_kept O11b.out p10k (by intro q hq e; have h9 : some (b8 + 1 + 1) = some q := hq; rw [← h9] at e; simp at e)
                have q11 := (p11.stored m (.int .i64 (-1))).1
                have q11k := (p11.stored m (.int .i64 (-1))).2
                have q10 := own_kept p10 q11k (by intro q hq e; have h9 : some (b8 + 1) = some q := hq; rw [← h9] at e; simp at e)
                have hb17 := bl_grown (bl_grown HBXb.out p10k (fun q hq => by cases hq; omega)) q11k (fun q hq => by cases hq; omega)
                clear p10 p10k p11 q11k x0 f0 x4 f4
                obtain ⟨W17, hW17⟩ : ∃ W, W = (X.setCell ⟨b8 + 1, m, none⟩ (.int .u8 hvm)).setCell ⟨b8 + 1 + 1, m, none⟩ (.int .i64 (-1)) := ⟨_, rfl⟩
                rw [← hW17] at q10 q11 hb17 ⊢
                clear hW17
                have Q10 := Lib.hid q10
                have Q11 := Lib.hid q11
                have HB17 := Lib.hid hb17
                obtain ⟨hc17, hf17⟩ := bcell hb17
                have hz17 := hb17.size
                clear q10 q11 hb17
                have HNX := Lib.hid (fun w' => next_any ⟨P.x, P.y⟩ hPok (m : Int) (by omega) (by omega) w')
                go_wp2_with fail
                refine (HNX.out _).mono ?_
                rintro e w3 ⟨rfl, hb3⟩
                have hb93 := bl_trans HB17.out hb3
                have Q10c := Lib.hid (own_below Q10.out hb3 (Nat.le_refl _))
                have Q11c := Lib.hid (own_below Q11.out hb3 (Nat.le_refl _))
                have HB93 := Lib.hid hb93
                have hz3 := hb93.size
                have hlk0 := run_place (map_below HM.out hb93 (by omega)) HPL.out (nxt ⟨P.x, P.y⟩ m)
                have hbv : besV l.ps P m = fnd (nxt ⟨P.x, P.y⟩ m) l.ps := rfl
                clear hb3 hb93 hc17 hf17
                obtain ⟨nx, hnx⟩ : ∃ nx, nx = nxt ⟨P.x, P.y⟩ m := ⟨_, rfl⟩
                rw [← hnx] at hlk0 hbv ⊢
                clear hnx
                rcases fnd_lo nx l.ps with gn | ⟨gn, gn2⟩
                · rw [gn] at hlk0 hbv
                  have hlk : (Instr.lookup 184 (.map (some (w.heap.size + 1))) (.agg #[.int .i8 nx.x, .int .i8 nx.y]) true).run Tryz.prog w3 = .ok (.tuple #[.int .i64 0, .bool false]) w3 := hlk0
                  have HBV := Lib.hid hbv
                  clear hlk0 hbv gn
                  go_wp2
                  go_roundw
                  case rel =>
                    refine ⟨m + 1, by omega, by go_num, by rw [HCS.out], ?_, ?_, HB93.out⟩
                    · rw [← hitTo_set P m hlm, ← HHV.out]; exact Q10c.out
                    · rw [← besTo_set l.ps P m hlm, HBV.out]; exact Q11c.out
                  case measure => simp [intOf]; omega
                · obtain ⟨fv, hfv⟩ : ∃ fv, fv = fnd nx l.ps := ⟨_, rfl⟩
                  rw [← hfv] at hlk0 hbv gn gn2
                  clear hfv
                  rw [decide_eq_true gn, show max fv 0 = fv by omega] at hlk0
                  have hlk : (Instr.lookup 184 (.map (some (w.heap.size + 1))) (.agg #[.int .i8 nx.x, .int .i8 nx.y]) true).run Tryz.prog w3 = .ok (.tuple #[.int .i64 fv, .bool true]) w3 := hlk0
                  have HBV := Lib.hid hbv
                  clear hlk0 hbv
                  obtain ⟨⟨v4, x4⟩, f4⟩ := own_cell Q11c.out (j := m) (by omega)
                  go_wp2
                  have r11 := (Q11c.out.stored m (.int .i64 fv)).1
                  have r11k := (Q11c.out.stored m (.int .i64 fv)).2
                  have r10 := own_kept Q10c.out r11k (by intro q hq e; have h9 : some (b8 + 1) = some q := hq; rw [← h9] at e; simp at e)
                  have hbe := bl_grown HB93.out r11k (fun q hq => by cases hq; omega)
                  clear x4 f4 r11k
                  go_roundw
                  case rel =>
                    refine ⟨m + 1, by omega, by go_num, by rw [HCS.out], ?_, ?_, hbe⟩
                    · rw [← hitTo_set P m hlm, ← HHV.out]; exact r10
                    · rw [← besTo_set l.ps P m hlm, HBV.out]; rw [List.set_set] at r11; exact r11
                  case measure => simp [intOf]; omega
            · have hm4 : m = 4 := by omega
              subst hm4
              rw [hitTo_all] at o10
              rw [besTo_all] at o11
              have st := own_below HST.out hbx (Nat.le_refl _)
              have r1 := own_below HR1.out hbx (Nat.le_refl _)
              have r2 := own_below HR2.out hbx (Nat.le_refl _)
              have r3 := own_below HR3.out hbx (Nat.le_refl _)
              have hbw := bl_trans HB9.out hbx
              obtain ⟨W22, hW22⟩ : ∃ W, W = wr := ⟨_, rfl⟩
              subst hW22
              obtain ⟨cv, hcv⟩ : ∃ cv, cv = canTo P 4 := ⟨_, rfl⟩
              rw [← hcv]
              have HCV := Lib.hid hcv
              clear hcv
              have HONE : Hid (∀ u ∈ (Array.toList #[Value.int .u8 cv]), u.oneCell' = true) := Lib.hid (by intro u hu; simp at hu; subst hu; rfl)
              obtain ⟨i1, hi1, hiz1, hix1, hiy1⟩ := info_parts Tryz.infoSides
              obtain ⟨i2, hi2, hiz2, hix2, hiy2⟩ := info_parts Tryz.info4Sides
              obtain ⟨i3, hi3, hiz3, hix3, hiy3⟩ := info_parts Tryz.info4Int
              have RR : R3 ⟨w, kv, .slice (some ⟨b', off, none⟩) l.ps.length scap, v1, v2, v3, b8, .int .u8 (hv0 P 0), .int .u8 (hv0 P 1), .int .u8 (hv0 P 2), .int .u8 (hv0 P 3), .int .i64 (besV l.ps P 0), .int .i64 (besV l.ps P 1), .int .i64 (besV l.ps P 2), .int .i64 (besV l.ps P 3)⟩ W22 [] v1 v2 v3 k k k (flat canC (l.ps.take k)) (flat hitC (l.ps.take k)) (flat (besC l.ps) (l.ps.take k)) :=
                ⟨st, r1, r2, r3, fun q hq => (HD1.out q hq).1, fun q hq => (HD1.out q hq).2, HD2.out, map_below HM.out hbx (show w.heap.size + 1 < W9.heap.size by omega), hbw, o10, o11, fun p hp => by cases hp⟩
              have RR := RR.step (bl_drew (Below.refl _ _))
              clear st r1 r2 r3 hbw o10 o11 hbx
              go_upto_region 22 with fail
              refine wp_region_T 3 24 (fun w' => w'.cell? ⟨w.heap.size, 1, none⟩ = some v1 ∧ w'.cell? ⟨w.heap.size, 2, none⟩ = some v2 ∧ w'.cell? ⟨w.heap.size, 3, none⟩ = some v3 ∧ w'.cell? ⟨b8 + 1, 0, none⟩ = some (.int .u8 (hv0 P 0)) ∧ w'.cell? ⟨b8 + 1, 1, none⟩ = some (.int .u8 (hv0 P 1)) ∧ w'.cell? ⟨b8 + 1, 2, none⟩ = some (.int .u8 (hv0 P 2)) ∧ w'.cell? ⟨b8 + 1, 3, none⟩ = some (.int .u8 (hv0 P 3)) ∧ w'.cell? ⟨b8 + 1 + 1, 0, none⟩ = some (.int .i64 (besV l.ps P 0)) ∧ w'.cell? ⟨b8 + 1 + 1, 1, none⟩ = some (.int .i64 (besV l.ps P 1)) ∧ w'.cell? ⟨b8 + 1 + 1, 2, none⟩ = some (.int .i64 (besV l.ps P 2)) ∧ w'.cell? ⟨b8 + 1 + 1, 3, none⟩ = some (.int .i64 (besV l.ps P 3))) (by kernel_rfl) RR.S (fun hHeld => ?_)
              obtain ⟨Y0, hY0⟩ : ∃ Y, Y = W22.drew := ⟨_, rfl⟩
              rw [← hY0] at RR hHeld ⊢
              clear hY0
              (refine' wpAnyT_takeP 0 (oi := ?oi16) (v := ?v16) ?hi16 (by decide) (by kernel_rfl) (by kernel_rfl) (by kernel_rfl) ?hQ16 ?hy16 ?rest16; (case hi16 => simp only [List.getElem?_toArray, List.getElem?_cons_zero, List.getElem?_cons_succ]; rfl); (case hQ16 => exact fun _ _ _ h => h); (case hy16 => refine Or.inl ⟨by rfl, ?_⟩; intro wz hSw; go_simp; try with_reducible rfl); try simp only [Act.put, List.setIfInBounds_toArray, List.set_cons_zero, List.set_cons_succ])
              (refine' wpAnyT_takeP 1 (oi := ?oi17) (v := ?v17) ?hi17 (by decide) (by kernel_rfl) (by kernel_rfl) (by kernel_rfl) ?hQ17 ?hy17 ?rest17; (case hi17 => simp only [List.getElem?_toArray, List.getElem?_cons_zero, List.getElem?_cons_succ]; rfl); (case hQ17 => exact fun _ _ _ h => h); (case hy17 => refine Or.inl ⟨by rfl, ?_⟩; intro wz hSw; go_simp; try with_reducible rfl); try simp only [Act.put, List.setIfInBounds_toArray, List.set_cons_zero, List.set_cons_succ])
              (refine' wpAnyT_takeP 2 (oi := ?oi18) (v := ?v18) ?hi18 (by decide) (by kernel_rfl) (by kernel_rfl) (by kernel_rfl) ?hQ18 ?hy18 ?rest18; (case hi18 => simp only [List.getElem?_toArray, List.getElem?_cons_zero, List.getElem?_cons_succ]; rfl); (case hQ18 => exact fun _ _ _ h => h); (case hy18 => refine Or.inl ⟨by rfl, ?_⟩; intro wz hSw; go_simp; try with_reducible rfl); try simp only [Act.put, List.setIfInBounds_toArray, List.set_cons_zero, List.set_cons_succ])
              (refine' wpAnyT_take 6 3 (oi := ?oi1) (v := ?v1) ?hi1 (by kernel_rfl) (by kernel_rfl) (by kernel_rfl) (by kernel_rfl) (by kernel_rfl) (by kernel_rfl) ?hQ1 ?hy1 (by assumption) ?rest1; (case hi1 => simp only [List.getElem?_toArray, List.getElem?_cons_zero, List.getElem?_cons_succ]; rfl); (case hQ1 => exact fun _ _ _ h => h); (case hy1 => refine Or.inl ⟨by rfl, ?_⟩; intro wz hSw; (try dsimp only at hSw); go_simp; try with_reducible rfl); try simp only [Act.put, List.setIfInBounds_toArray, List.set_cons_zero, List.set_cons_succ])
              (refine' wpAnyT_take 6 4 (oi := ?oi2) (v := ?v2) ?hi2 (by kernel_rfl) (by kernel_rfl) (by kernel_rfl) (by kernel_rfl) (by kernel_rfl) (by kernel_rfl) ?hQ2 ?hy2 (by assumption) ?rest2; (case hi2 => simp only [List.getElem?_toArray, List.getElem?_cons_zero, List.getElem?_cons_succ]; rfl); (case hQ2 => exact fun _ _ _ h => h); (case hy2 => refine Or.inl ⟨by rfl, ?_⟩; intro wz hSw; (try dsimp only at hSw); go_simp; try with_reducible rfl); try simp only [Act.put, List.setIfInBounds_toArray, List.set_cons_zero, List.set_cons_succ])
              (refine' wpAnyT_take 6 5 (oi := ?oi3) (v := ?v3) ?hi3 (by kernel_rfl) (by kernel_rfl) (by kernel_rfl) (by kernel_rfl) (by kernel_rfl) (by kernel_rfl) ?hQ3 ?hy3 (by assumption) ?rest3; (case hi3 => simp only [List.getElem?_toArray, List.getElem?_cons_zero, List.getElem?_cons_succ]; rfl); (case hQ3 => exact fun _ _ _ h => h); (case hy3 => refine Or.inl ⟨by rfl, ?_⟩; intro wz hSw; (try dsimp only at hSw); go_simp; try with_reducible rfl); try simp only [Act.put, List.setIfInBounds_toArray, List.set_cons_zero, List.set_cons_succ])
              (refine' wpAnyT_take 6 6 (oi := ?oi4) (v := ?v4) ?hi4 (by kernel_rfl) (by kernel_rfl) (by kernel_rfl) (by kernel_rfl) (by kernel_rfl) (by kernel_rfl) ?hQ4 ?hy4 (by assumption) ?rest4; (case hi4 => simp only [List.getElem?_toArray, List.getElem?_cons_zero, List.getElem?_cons_succ]; rfl); (case hQ4 => exact fun _ _ _ h => h); (case hy4 => refine Or.inl ⟨by rfl, ?_⟩; intro wz hSw; (try dsimp only at hSw); go_simp; try with_reducible rfl); try simp only [Act.put, List.setIfInBounds_toArray, List.set_cons_zero, List.set_cons_succ])
              (refine' wpAnyT_take 6 7 (oi := ?oi5) (v := ?v5) ?hi5 (by kernel_rfl) (by kernel_rfl) (by kernel_rfl) (by kernel_rfl) (by kernel_rfl) (by kernel_rfl) ?hQ5 ?hy5 (by assumption) ?rest5; (case hi5 => simp only [List.getElem?_toArray, List.getElem?_cons_zero, List.getElem?_cons_succ]; rfl); (case hQ5 => exact fun _ _ _ h => h); (case hy5 => refine Or.inl ⟨by rfl, ?_⟩; intro wz hSw; (try dsimp only at hSw); go_simp; try with_reducible rfl); try simp only [Act.put, List.setIfInBounds_toArray, List.set_cons_zero, List.set_cons_succ])
              (refine' wpAnyT_take 6 10 (oi := ?oi6) (v := ?v6) ?hi6 (by kernel_rfl) (by kernel_rfl) (by kernel_rfl) (by kernel_rfl) (by kernel_rfl) (by kernel_rfl) ?hQ6 ?hy6 (by assumption) ?rest6; (case hi6 => simp only [List.getElem?_toArray, List.getElem?_cons_zero, List.getElem?_cons_succ]; rfl); (case hQ6 => exact fun _ _ _ h => h); (case hy6 => refine Or.inl ⟨by rfl, ?_⟩; intro wz hSw; (try dsimp only at hSw); go_simp; try with_reducible rfl); try simp only [Act.put, List.setIfInBounds_toArray, List.set_cons_zero, List.set_cons_succ])
              (refine' wpAnyT_take 6 11 (oi := ?oi7) (v := ?v7) ?hi7 (by kernel_rfl) (by kernel_rfl) (by kernel_rfl) (by kernel_rfl) (by kernel_rfl) (by kernel_rfl) ?hQ7 ?hy7 (by assumption) ?rest7; (case hi7 => simp only [List.getElem?_toArray, List.getElem?_cons_zero, List.getElem?_cons_succ]; rfl); (case hQ7 => exact fun _ _ _ h => h); (case hy7 => refine Or.inl ⟨by rfl, ?_⟩; intro wz hSw; (try dsimp only at hSw); go_simp; try with_reducible rfl); try simp only [Act.put, List.setIfInBounds_toArray, List.set_cons_zero, List.set_cons_succ])
              (refine' wpAnyT_take 6 12 (oi := ?oi8) (v := ?v8) ?hi8 (by kernel_rfl) (by kernel_rfl) (by kernel_rfl) (by kernel_rfl) (by kernel_rfl) (by kernel_rfl) ?hQ8 ?hy8 (by assumption) ?rest8; (case hi8 => simp only [List.getElem?_toArray, List.getElem?_cons_zero, List.getElem?_cons_succ]; rfl); (case hQ8 => exact fun _ _ _ h => h); (case hy8 => refine Or.inl ⟨by rfl, ?_⟩; intro wz hSw; (try dsimp only at hSw); go_simp; try with_reducible rfl); try simp only [Act.put, List.setIfInBounds_toArray, List.set_cons_zero, List.set_cons_succ])
              (refine' wpAnyT_take 6 13 (oi := ?oi9) (v := ?v9) ?hi9 (by kernel_rfl) (by kernel_rfl) (by kernel_rfl) (by kernel_rfl) (by kernel_rfl) (by kernel_rfl) ?hQ9 ?hy9 (by assumption) ?rest9; (case hi9 => simp only [List.getElem?_toArray, List.getElem?_cons_zero, List.getElem?_cons_succ]; rfl); (case hQ9 => exact fun _ _ _ h => h); (case hy9 => refine Or.inl ⟨by rfl, ?_⟩; intro wz hSw; (try dsimp only at hSw); go_simp; try with_reducible rfl); try simp only [Act.put, List.setIfInBounds_toArray, List.set_cons_zero, List.set_cons_succ])
              (refine' wpAnyT_take 6 14 (oi := ?oi10) (v := ?v10) ?hi10 (by kernel_rfl) (by kernel_rfl) (by kernel_rfl) (by kernel_rfl) (by kernel_rfl) (by kernel_rfl) ?hQ10 ?hy10 (by assumption) ?rest10; (case hi10 => simp only [List.getElem?_toArray, List.getElem?_cons_zero, List.getElem?_cons_succ]; rfl); (case hQ10 => exact fun _ _ _ h => h); (case hy10 => refine Or.inl ⟨by rfl, ?_⟩; intro wz hSw; (try dsimp only at hSw); go_simp; try with_reducible rfl); try simp only [Act.put, List.setIfInBounds_toArray, List.set_cons_zero, List.set_cons_succ])
              (refine' wpAnyT_take 6 17 (oi := ?oi11) (v := ?v11) ?hi11 (by kernel_rfl) (by kernel_rfl) (by kernel_rfl) (by kernel_rfl) (by kernel_rfl) (by kernel_rfl) ?hQ11 ?hy11 (by assumption) ?rest11; (case hi11 => simp only [List.getElem?_toArray, List.getElem?_cons_zero, List.getElem?_cons_succ]; rfl); (case hQ11 => exact fun _ _ _ h => h); (case hy11 => refine Or.inl ⟨by rfl, ?_⟩; intro wz hSw; (try dsimp only at hSw); go_simp; try with_reducible rfl); try simp only [Act.put, List.setIfInBounds_toArray, List.set_cons_zero, List.set_cons_succ])
              (refine' wpAnyT_take 6 18 (oi := ?oi12) (v := ?v12) ?hi12 (by kernel_rfl) (by kernel_rfl) (by kernel_rfl) (by kernel_rfl) (by kernel_rfl) (by kernel_rfl) ?hQ12 ?hy12 (by assumption) ?rest12; (case hi12 => simp only [List.getElem?_toArray, List.getElem?_cons_zero, List.getElem?_cons_succ]; rfl); (case hQ12 => exact fun _ _ _ h => h); (case hy12 => refine Or.inl ⟨by rfl, ?_⟩; intro wz hSw; (try dsimp only at hSw); go_simp; try with_reducible rfl); try simp only [Act.put, List.setIfInBounds_toArray, List.set_cons_zero, List.set_cons_succ])
              (refine' wpAnyT_take 6 19 (oi := ?oi13) (v := ?v13) ?hi13 (by kernel_rfl) (by kernel_rfl) (by kernel_rfl) (by kernel_rfl) (by kernel_rfl) (by kernel_rfl) ?hQ13 ?hy13 (by assumption) ?rest13; (case hi13 => simp only [List.getElem?_toArray, List.getElem?_cons_zero, List.getElem?_cons_succ]; rfl); (case hQ13 => exact fun _ _ _ h => h); (case hy13 => refine Or.inl ⟨by rfl, ?_⟩; intro wz hSw; (try dsimp only at hSw); go_simp; try with_reducible rfl); try simp only [Act.put, List.setIfInBounds_toArray, List.set_cons_zero, List.set_cons_succ])
              (refine' wpAnyT_take 6 20 (oi := ?oi14) (v := ?v14) ?hi14 (by kernel_rfl) (by kernel_rfl) (by kernel_rfl) (by kernel_rfl) (by kernel_rfl) (by kernel_rfl) ?hQ14 ?hy14 (by assumption) ?rest14; (case hi14 => simp only [List.getElem?_toArray, List.getElem?_cons_zero, List.getElem?_cons_succ]; rfl); (case hQ14 => exact fun _ _ _ h => h); (case hy14 => refine Or.inl ⟨by rfl, ?_⟩; intro wz hSw; (try dsimp only at hSw); go_simp; try with_reducible rfl); try simp only [Act.put, List.setIfInBounds_toArray, List.set_cons_zero, List.set_cons_succ])
              (refine' wpAnyT_take 6 21 (oi := ?oi15) (v := ?v15) ?hi15 (by kernel_rfl) (by kernel_rfl) (by kernel_rfl) (by kernel_rfl) (by kernel_rfl) (by kernel_rfl) ?hQ15 ?hy15 (by assumption) ?rest15; (case hi15 => simp only [List.getElem?_toArray, List.getElem?_cons_zero, List.getElem?_cons_succ]; rfl); (case hQ15 => exact fun _ _ _ h => h); (case hy15 => refine Or.inl ⟨by rfl, ?_⟩; intro wz hSw; (try dsimp only at hSw); go_simp; try with_reducible rfl); try simp only [Act.put, List.setIfInBounds_toArray, List.set_cons_zero, List.set_cons_succ])
              clear hHeld
              refine tail_cut (fun L1 L2 L3 g1 cap1 g2 cap2 g3 cap3 Y => R3 ⟨w, kv, .slice (some ⟨b', off, none⟩) l.ps.length scap, v1, v2, v3, b8, .int .u8 (hv0 P 0), .int .u8 (hv0 P 1), .int .u8 (hv0 P 2), .int .u8 (hv0 P 3), .int .i64 (besV l.ps P 0), .int .i64 (besV l.ps P 1), .int .i64 (besV l.ps P 2), .int .i64 (besV l.ps P 3)⟩ Y [] (.slice (some ⟨g1, 0, none⟩) (k + 1) cap1) (.slice (some ⟨g2, 0, none⟩) (k + 1) cap2) (.slice (some ⟨g3, 0, none⟩) (k + 1) cap3) (k + 1) (k + 1) (k + 1) (flat canC (l.ps.take k) ++ Array.toList #[.int .u8 cv]) (flat hitC (l.ps.take k) ++ Array.toList #[.int .u8 (hv0 P 0), .int .u8 (hv0 P 1), .int .u8 (hv0 P 2), .int .u8 (hv0 P 3)]) (flat (besC l.ps) (l.ps.take k) ++ Array.toList #[.int .i64 (besV l.ps P 0), .int .i64 (besV l.ps P 1), .int .i64 (besV l.ps P 2), .int .i64 (besV l.ps P 3)])) (fun L1 L2 L3 g1 cap1 g2 cap2 g3 cap3 a => (((((a.put (some 92) (.slice (some ⟨L1, 0, none⟩) 1 1)).put (some 93) (.slice (some ⟨g1, 0, none⟩) (k + 1) cap1)).put (some 99) (.slice (some ⟨L2, 0, none⟩) 1 1)).put (some 100) (.slice (some ⟨g2, 0, none⟩) (k + 1) cap2)).put (some 106) (.slice (some ⟨L3, 0, none⟩) 1 1)).put (some 107) (.slice (some ⟨g3, 0, none⟩) (k + 1) cap3)) 9 (fun q => (((((q.setIfInBounds 8 true).setIfInBounds 9 true).setIfInBounds 15 true).setIfInBounds 16 true).setIfInBounds 22 true).setIfInBounds 23 true) ?tailQ (fun TAIL => ?mainQ)
              case mainQ =>
                simp only [Act.put, List.setIfInBounds_toArray, List.set_cons_zero, List.set_cons_succ] at TAIL
                refine wpAnyT_ready (rs := [8, 15, 22]) (by kernel_rfl) (by simp) ?_
                (refine' AllReadyT.cons (o := ?o19) ?ho19 (fun K hK => ?step19) ?more19; (case ho19 => simp only [List.getElem?_toArray, List.getElem?_cons_zero, List.getElem?_cons_succ]; rfl))
                · go_simp
                  have RR := RR.lit #[.int .u8 cv] 185
                  obtain ⟨Y1, hY⟩ : ∃ Y, Y = Y0.alloc (.cells #[.int .u8 cv] 185) := ⟨_, rfl⟩
                  rw [← hY] at RR ⊢
                  clear hY
                  obtain ⟨L1, hL⟩ : ∃ L, L = Y0.heap.size := ⟨_, rfl⟩
                  rw [← hL] at RR ⊢
                  clear hL
                  refine hK.out _ _ (fun _ _ => RR.S) (fun hHeld => ?_)
                  clear hK K
                  try simp only [Act.put, List.setIfInBounds_toArray, List.set_cons_zero, List.set_cons_succ]
                  refine wpAnyT_ready (rs := [9, 15, 22]) (by kernel_rfl) (by simp) ?_
                  (refine' AllReadyT.cons (o := ?o20) ?ho20 (fun K hK => ?step20) ?more20; (case ho20 => simp only [List.getElem?_toArray, List.getElem?_cons_zero, List.getElem?_cons_succ]; rfl))
                  · refine step_append_lies _ (by rfl) _ _ _ (by rfl) (w.heap.size + 2) 185 i1 _ 1 1 Tryz.underlying179 hi1 hiz1 hix1 hiy1 rfl (by omega) v1 k (flat canC (l.ps.take k)) (by rfl) RR.r1 ⟨L1, 0, none⟩ 1 1 (Array.toList #[.int .u8 cv]) (by rfl) (by rfl) (World.news_of_block (RR.lits (L1, #[.int .u8 cv], 185) (by simp)).2) HONE.out (by omega) (by unfold maxLen; omega) (by omega) (by have : b8 + 1 + 1 < Y1.heap.size := (RR.o11.lt _ rfl).2; omega) _ rfl ?_
                    intro g1 cap1 Y2 hown hgrow hat hlt1
                    have RR := RR.app1 hl1 hown hgrow hat
                    clear hown hgrow hat
                    refine hK.out _ _ (fun _ _ => RR.S) (fun hHeld => ?_)
                    clear hK K
                    try simp only [Act.put, List.setIfInBounds_toArray, List.set_cons_zero, List.set_cons_succ]
                    refine wpAnyT_ready (rs := [15, 22]) (by kernel_rfl) (by simp) ?_
                    (refine' AllReadyT.cons (o := ?o21) ?ho21 (fun K hK => ?step21) ?more21; (case ho21 => simp only [List.getElem?_toArray, List.getElem?_cons_zero, List.getElem?_cons_succ]; rfl))
                    · go_simp
                      have RR := RR.lit #[.int .u8 (hv0 P 0), .int .u8 (hv0 P 1), .int .u8 (hv0 P 2), .int .u8 (hv0 P 3)] 186
                      obtain ⟨Y3, hY⟩ : ∃ Y, Y = Y2.alloc (.cells #[.int .u8 (hv0 P 0), .int .u8 (hv0 P 1), .int .u8 (hv0 P 2), .int .u8 (hv0 P 3)] 186) := ⟨_, rfl⟩
                      rw [← hY] at RR ⊢
                      clear hY
                      obtain ⟨L2, hL⟩ : ∃ L, L = Y2.heap.size := ⟨_, rfl⟩
                      rw [← hL] at RR ⊢
                      clear hL
                      refine hK.out _ _ (fun _ _ => RR.S) (fun hHeld => ?_)
                      clear hK K
                      try simp only [Act.put, List.setIfInBounds_toArray, List.set_cons_zero, List.set_cons_succ]
                      refine wpAnyT_ready (rs := [16, 22]) (by kernel_rfl) (by simp) ?_
                      (refine' AllReadyT.cons (o := ?o22) ?ho22 (fun K hK => ?step22) ?more22; (case ho22 => simp only [List.getElem?_toArray, List.getElem?_cons_zero, List.getElem?_cons_succ]; rfl))
                      · refine step_append_lies _ (by rfl) _ _ _ (by rfl) (w.heap.size + 2) 186 i2 _ 4 4 Tryz.underlying180 hi2 hiz2 hix2 hiy2 rfl (by omega) v2 k (flat hitC (l.ps.take k)) (by rfl) RR.r2 ⟨L2, 0, none⟩ 1 1 (Array.toList #[.int .u8 (hv0 P 0), .int .u8 (hv0 P 1), .int .u8 (hv0 P 2), .int .u8 (hv0 P 3)]) (by rfl) (by rfl) (World.news_of_block (RR.lits (L2, #[.int .u8 (hv0 P 0), .int .u8 (hv0 P 1), .int .u8 (hv0 P 2), .int .u8 (hv0 P 3)], 186) (by simp)).2) (hitC_one P) (by omega) (by unfold maxLen; omega) (by omega) (by have : b8 + 1 + 1 < Y3.heap.size := (RR.o11.lt _ rfl).2; omega) _ rfl ?_
                        intro g2 cap2 Y4 hown hgrow hat hlt2
                        have RR := RR.app2 hl2 hown hgrow hat
                        clear hown hgrow hat
                        refine hK.out _ _ (fun _ _ => RR.S) (fun hHeld => ?_)
                        clear hK K
                        try simp only [Act.put, List.setIfInBounds_toArray, List.set_cons_zero, List.set_cons_succ]
                        refine wpAnyT_ready (rs := [22]) (by kernel_rfl) (by simp) ?_
                        (refine' AllReadyT.cons (o := ?o33) ?ho33 (fun K hK => ?step33) AllReadyT.nil; (case ho33 => simp only [List.getElem?_toArray, List.getElem?_cons_zero, List.getElem?_cons_succ]; rfl))
                        go_simp
                        have RR := RR.lit #[.int .i64 (besV l.ps P 0), .int .i64 (besV l.ps P 1), .int .i64 (besV l.ps P 2), .int .i64 (besV l.ps P 3)] 187
                        obtain ⟨Y5, hY⟩ : ∃ Y, Y = Y4.alloc (.cells #[.int .i64 (besV l.ps P 0), .int .i64 (besV l.ps P 1), .int .i64 (besV l.ps P 2), .int .i64 (besV l.ps P 3)] 187) := ⟨_, rfl⟩
                        rw [← hY] at RR ⊢
                        clear hY
                        obtain ⟨L3, hL⟩ : ∃ L, L = Y4.heap.size := ⟨_, rfl⟩
                        rw [← hL] at RR ⊢
                        clear hL
                        refine hK.out _ _ (fun _ _ => RR.S) (fun hHeld => ?_)
                        clear hK K
                        try simp only [Act.put, List.setIfInBounds_toArray, List.set_cons_zero, List.set_cons_succ]
                        refine wpAnyT_ready (rs := [23]) (by kernel_rfl) (by simp) ?_
                        (refine' AllReadyT.cons (o := ?o34) ?ho34 (fun K hK => ?step34) AllReadyT.nil; (case ho34 => simp only [List.getElem?_toArray, List.getElem?_cons_zero, List.getElem?_cons_succ]; rfl))
                        refine step_append_lies _ (by rfl) _ _ _ (by rfl) (w.heap.size + 2) 187 i3 _ 4 32 Tryz.underlying181 hi3 hiz3 hix3 hiy3 rfl (by omega) v3 k (flat (besC l.ps) (l.ps.take k)) (by rfl) RR.r3 ⟨L3, 0, none⟩ 1 1 (Array.toList #[.int .i64 (besV l.ps P 0), .int .i64 (besV l.ps P 1), .int .i64 (besV l.ps P 2), .int .i64 (besV l.ps P 3)]) (by rfl) (by rfl) (World.news_of_block (RR.lits (L3, #[.int .i64 (besV l.ps P 0), .int .i64 (besV l.ps P 1), .int .i64 (besV l.ps P 2), .int .i64 (besV l.ps P 3)], 187) (by simp)).2) (besC_one l.ps P) (by omega) (by unfold maxLen; omega) (by omega) (by have : b8 + 1 + 1 < Y5.heap.size := (RR.o11.lt _ rfl).2; omega) _ rfl ?_
                        intro g3 cap3 Y6 hown hgrow hat hlt3
                        have RR := RR.app3 hl3 hown hgrow hat
                        clear hown hgrow hat
                        refine hK.out _ _ (fun _ _ => RR.S) (fun hHeld => ?_)
                        clear hK K
                        try simp only [Act.put, List.setIfInBounds_toArray, List.set_cons_zero, List.set_cons_succ]
                        exact TAIL L1 L2 L3 g1 cap1 g2 cap2 g3 cap3 Y6 RR.forget
                      (refine' AllReadyT.cons (o := ?o35) ?ho35 (fun K hK => ?step35) AllReadyT.nil; (case ho35 => simp only [List.getElem?_toArray, List.getElem?_cons_zero, List.getElem?_cons_succ]; rfl))
                      go_simp
                      have RR := RR.lit #[.int .i64 (besV l.ps P 0), .int .i64 (besV l.ps P 1), .int .i64 (besV l.ps P 2), .int .i64 (besV l.ps P 3)] 187
                      obtain ⟨Y4, hY⟩ : ∃ Y, Y = Y3.alloc (.cells #[.int .i64 (besV l.ps P 0), .int .i64 (besV l.ps P 1), .int .i64 (besV l.ps P 2), .int .i64 (besV l.ps P 3)] 187) := ⟨_, rfl⟩
                      rw [← hY] at RR ⊢
                      clear hY
                      obtain ⟨L3, hL⟩ : ∃ L, L = Y3.heap.size := ⟨_, rfl⟩
                      rw [← hL] at RR ⊢
                      clear hL
                      refine hK.out _ _ (fun _ _ => RR.S) (fun hHeld => ?_)
                      clear hK K
                      try simp only [Act.put, List.setIfInBounds_toArray, List.set_cons_zero, List.set_cons_succ]
                      refine wpAnyT_ready (rs := [16]) (by kernel_rfl) (by simp) ?_
                      (refine' AllReadyT.cons (o := ?o36) ?ho36 (fun K hK => ?step36) AllReadyT.nil; (case ho36 => simp only [List.getElem?_toArray, List.getElem?_cons_zero, List.getElem?_cons_succ]; rfl))
                      refine step_append_lies _ (by rfl) _ _ _ (by rfl) (w.heap.size + 2) 186 i2 _ 4 4 Tryz.underlying180 hi2 hiz2 hix2 hiy2 rfl (by omega) v2 k (flat hitC (l.ps.take k)) (by rfl) RR.r2 ⟨L2, 0, none⟩ 1 1 (Array.toList #[.int .u8 (hv0 P 0), .int .u8 (hv0 P 1), .int .u8 (hv0 P 2), .int .u8 (hv0 P 3)]) (by rfl) (by rfl) (World.news_of_block (RR.lits (L2, #[.int .u8 (hv0 P 0), .int .u8 (hv0 P 1), .int .u8 (hv0 P 2), .int .u8 (hv0 P 3)], 186) (by simp)).2) (hitC_one P) (by omega) (by unfold maxLen; omega) (by omega) (by have : b8 + 1 + 1 < Y4.heap.size := (RR.o11.lt _ rfl).2; omega) _ rfl ?_
                      intro g2 cap2 Y5 hown hgrow hat hlt2
                      have RR := RR.app2 hl2 hown hgrow hat
                      clear hown hgrow hat
                      refine hK.out _ _ (fun _ _ => RR.S) (fun hHeld => ?_)
                      clear hK K
                      try simp only [Act.put, List.setIfInBounds_toArray, List.set_cons_zero, List.set_cons_succ]
                      refine wpAnyT_ready (rs := [23]) (by kernel_rfl) (by simp) ?_
                      (refine' AllReadyT.cons (o := ?o37) ?ho37 (fun K hK => ?step37) AllReadyT.nil; (case ho37 => simp only [List.getElem?_toArray, List.getElem?_cons_zero, List.getElem?_cons_succ]; rfl))
                      refine step_append_lies _ (by rfl) _ _ _ (by rfl) (w.heap.size + 2) 187 i3 _ 4 32 Tryz.underlying181 hi3 hiz3 hix3 hiy3 rfl (by omega) v3 k (flat (besC l.ps) (l.ps.take k)) (by rfl) RR.r3 ⟨L3, 0, none⟩ 1 1 (Array.toList #[.int .i64 (besV l.ps P 0), .int .i64 (besV l.ps P 1), .int .i64 (besV l.ps P 2), .int .i64 (besV l.ps P 3)]) (by rfl) (by rfl) (World.news_of_block (RR.lits (L3, #[.int .i64 (besV l.ps P 0), .int .i64 (besV l.ps P 1), .int .i64 (besV l.ps P 2), .int .i64 (besV l.ps P 3)], 187) (by simp)).2) (besC_one l.ps P) (by omega) (by unfold maxLen; omega) (by omega) (by have : b8 + 1 + 1 < Y5.heap.size := (RR.o11.lt _ rfl).2; omega) _ rfl ?_
                      intro g3 cap3 Y6 hown hgrow hat hlt3
                      have RR := RR.app3 hl3 hown hgrow hat
                      clear hown hgrow hat
                      refine hK.out _ _ (fun _ _ => RR.S) (fun hHeld => ?_)
                      clear hK K
                      try simp only [Act.put, List.setIfInBounds_toArray, List.set_cons_zero, List.set_cons_succ]
                      exact TAIL L1 L2 L3 g1 cap1 g2 cap2 g3 cap3 Y6 RR.forget
                    (refine' AllReadyT.cons (o := ?o38) ?ho38 (fun K hK => ?step38) AllReadyT.nil; (case ho38 => simp only [List.getElem?_toArray, List.getElem?_cons_zero, List.getElem?_cons_succ]; rfl))
                    go_simp
                    have RR := RR.lit #[.int .i64 (besV l.ps P 0), .int .i64 (besV l.ps P 1), .int .i64 (besV l.ps P 2), .int .i64 (besV l.ps P 3)] 187
                    obtain ⟨Y3, hY⟩ : ∃ Y, Y = Y2.alloc (.cells #[.int .i64 (besV l.ps P 0), .int .i64 (besV l.ps P 1), .int .i64 (besV l.ps P 2), .int .i64 (besV l.ps P 3)] 187) := ⟨_, rfl⟩
                    rw [← hY] at RR ⊢
                    clear hY
                    obtain ⟨L3, hL⟩ : ∃ L, L = Y2.heap.size := ⟨_, rfl⟩
                    rw [← hL] at RR ⊢
                    clear hL
                    refine hK.out _ _ (fun _ _ => RR.S) (fun hHeld => ?_)
                    clear hK K
                    try simp only [Act.put, List.setIfInBounds_toArray, List.set_cons_zero, List.set_cons_succ]
                    refine wpAnyT_ready (rs := [15]) (by kernel_rfl) (by simp) ?_
                    (refine' AllReadyT.cons (o := ?o39) ?ho39 (fun K hK => ?step39) AllReadyT.nil; (case ho39 => simp only [List.getElem?_toArray, List.getElem?_cons_zero, List.getElem?_cons_succ]; rfl))
                    go_simp
                    have RR := RR.lit #[.int .u8 (hv0 P 0), .int .u8 (hv0 P 1), .int .u8 (hv0 P 2), .int .u8 (hv0 P 3)] 186
                    obtain ⟨Y4, hY⟩ : ∃ Y, Y = Y3.alloc (.cells #[.int .u8 (hv0 P 0), .int .u8 (hv0 P 1), .int .u8 (hv0 P 2), .int .u8 (hv0 P 3)] 186) := ⟨_, rfl⟩
                    rw [← hY] at RR ⊢
                    clear hY
                    obtain ⟨L2, hL⟩ : ∃ L, L = Y3.heap.size := ⟨_, rfl⟩
                    rw [← hL] at RR ⊢
                    clear hL
                    refine hK.out _ _ (fun _ _ => RR.S) (fun hHeld => ?_)
                    clear hK K
                    try simp only [Act.put, List.setIfInBounds_toArray, List.set_cons_zero, List.set_cons_succ]
                    refine wpAnyT_ready (rs := [16]) (by kernel_rfl) (by simp) ?_
                    (refine' AllReadyT.cons (o := ?o40) ?ho40 (fun K hK => ?step40) AllReadyT.nil; (case ho40 => simp only [List.getElem?_toArray, List.getElem?_cons_zero, List.getElem?_cons_succ]; rfl))
                    refine step_append_lies _ (by rfl) _ _ _ (by rfl) (w.heap.size + 2) 186 i2 _ 4 4 Tryz.underlying180 hi2 hiz2 hix2 hiy2 rfl (by omega) v2 k (flat hitC (l.ps.take k)) (by rfl) RR.r2 ⟨L2, 0, none⟩ 1 1 (Array.toList #[.int .u8 (hv0 P 0), .int .u8 (hv0 P 1), .int .u8 (hv0 P 2), .int .u8 (hv0 P 3)]) (by rfl) (by rfl) (World.news_of_block (RR.lits (L2, #[.int .u8 (hv0 P 0), .int .u8 (hv0 P 1), .int .u8 (hv0 P 2), .int .u8 (hv0 P 3)], 186) (by simp)).2) (hitC_one P) (by omega) (by unfold maxLen; omega) (by omega) (by have : b8 + 1 + 1 < Y4.heap.size := (RR.o11.lt _ rfl).2; omega) _ rfl ?_
                    intro g2 cap2 Y5 hown hgrow hat hlt2
                    have RR := RR.app2 hl2 hown hgrow hat
                    clear hown hgrow hat
                    refine hK.out _ _ (fun _ _ => RR.S) (fun hHeld => ?_)
                    clear hK K
                    try simp only [Act.put, List.setIfInBounds_toArray, List.set_cons_zero, List.set_cons_succ]
                    refine wpAnyT_ready (rs := [23]) (by kernel_rfl) (by simp) ?_
                    (refine' AllReadyT.cons (o := ?o41) ?ho41 (fun K hK => ?step41) AllReadyT.nil; (case ho41 => simp only [List.getElem?_toArray, List.getElem?_cons_zero, List.getElem?_cons_succ]; rfl))
                    refine step_append_lies _ (by rfl) _ _ _ (by rfl) (w.heap.size + 2) 187 i3 _ 4 32 Tryz.underlying181 hi3 hiz3 hix3 hiy3 rfl (by omega) v3 k (flat (besC l.ps) (l.ps.take k)) (by rfl) RR.r3 ⟨L3, 0, none⟩ 1 1 (Array.toList #[.int .i64 (besV l.ps P 0), .int .i64 (besV l.ps P 1), .int .i64 (besV l.ps P 2), .int .i64 (besV l.ps P 3)]) (by rfl) (by rfl) (World.news_of_block (RR.lits (L3, #[.int .i64 (besV l.ps P 0), .int .i64 (besV l.ps P 1), .int .i64 (besV l.ps P 2), .int .i64 (besV l.ps P 3)], 187) (by simp)).2) (besC_one l.ps P) (by omega) (by unfold maxLen; omega) (by omega) (by have : b8 + 1 + 1 < Y5.heap.size := (RR.o11.lt _ rfl).2; omega) _ rfl ?_
                    intro g3 cap3 Y6 hown hgrow hat hlt3
                    have RR := RR.app3 hl3 hown hgrow hat
                    clear hown hgrow hat
                    refine hK.out _ _ (fun _ _ => RR.S) (fun hHeld => ?_)
                    clear hK K
                    try simp only [Act.put, List.setIfInBounds_toArray, List.set_cons_zero, List.set_cons_succ]
                    exact TAIL L1 L2 L3 g1 cap1 g2 cap2 g3 cap3 Y6 RR.forget
                  (refine' AllReadyT.cons (o := ?o23) ?ho23 (fun K hK => ?step23) ?more23; (case ho23 => simp only [List.getElem?_toArray, List.getElem?_cons_zero, List.getElem?_cons_succ]; rfl))
                  · go_simp
                    have RR := RR.lit #[.int .u8 (hv0 P 0), .int .u8 (hv0 P 1), .int .u8 (hv0 P 2), .int .u8 (hv0 P 3)] 186
                    obtain ⟨Y2, hY⟩ : ∃ Y, Y = Y1.alloc (.cells #[.int .u8 (hv0 P 0), .int .u8 (hv0 P 1), .int .u8 (hv0 P 2), .int .u8 (hv0 P 3)] 186) := ⟨_, rfl⟩
                    rw [← hY] at RR ⊢
                    clear hY
                    obtain ⟨L2, hL⟩ : ∃ L, L = Y1.heap.size := ⟨_, rfl⟩
                    rw [← hL] at RR ⊢
                    clear hL
                    refine hK.out _ _ (fun _ _ => RR.S) (fun hHeld => ?_)
                    clear hK K
                    try simp only [Act.put, List.setIfInBounds_toArray, List.set_cons_zero, List.set_cons_succ]
                    refine wpAnyT_ready (rs := [9, 22]) (by kernel_rfl) (by simp) ?_
                    (refine' AllReadyT.cons (o := ?o24) ?ho24 (fun K hK => ?step24) ?more24; (case ho24 => simp only [List.getElem?_toArray, List.getElem?_cons_zero, List.getElem?_cons_succ]; rfl))
                    · refine step_append_lies _ (by rfl) _ _ _ (by rfl) (w.heap.size + 2) 185 i1 _ 1 1 Tryz.underlying179 hi1 hiz1 hix1 hiy1 rfl (by omega) v1 k (flat canC (l.ps.take k)) (by rfl) RR.r1 ⟨L1, 0, none⟩ 1 1 (Array.toList #[.int .u8 cv]) (by rfl) (by rfl) (World.news_of_block (RR.lits (L1, #[.int .u8 cv], 185) (by simp)).2) HONE.out (by omega) (by unfold maxLen; omega) (by omega) (by have : b8 + 1 + 1 < Y2.heap.size := (RR.o11.lt _ rfl).2; omega) _ rfl ?_
                      intro g1 cap1 Y3 hown hgrow hat hlt1
                      have RR := RR.app1 hl1 hown hgrow hat
                      clear hown hgrow hat
                      refine hK.out _ _ (fun _ _ => RR.S) (fun hHeld => ?_)
                      clear hK K
                      try simp only [Act.put, List.setIfInBounds_toArray, List.set_cons_zero, List.set_cons_succ]
                      refine wpAnyT_ready (rs := [16, 22]) (by kernel_rfl) (by simp) ?_
                      (refine' AllReadyT.cons (o := ?o25) ?ho25 (fun K hK => ?step25) ?more25; (case ho25 => simp only [List.getElem?_toArray, List.getElem?_cons_zero, List.getElem?_cons_succ]; rfl))
                      · refine step_append_lies _ (by rfl) _ _ _ (by rfl) (w.heap.size + 2) 186 i2 _ 4 4 Tryz.underlying180 hi2 hiz2 hix2 hiy2 rfl (by omega) v2 k (flat hitC (l.ps.take k)) (by rfl) RR.r2 ⟨L2, 0, none⟩ 1 1 (Array.toList #[.int .u8 (hv0 P 0), .int .u8 (hv0 P 1), .int .u8 (hv0 P 2), .int .u8 (hv0 P 3)]) (by rfl) (by rfl) (World.news_of_block (RR.lits (L2, #[.int .u8 (hv0 P 0), .int .u8 (hv0 P 1), .int .u8 (hv0 P 2), .int .u8 (hv0 P 3)], 186) (by simp)).2) (hitC_one P) (by omega) (by unfold maxLen; omega) (by omega) (by have : b8 + 1 + 1 < Y3.heap.size := (RR.o11.lt _ rfl).2; omega) _ rfl ?_
                        intro g2 cap2 Y4 hown hgrow hat hlt2
                        have RR := RR.app2 hl2 hown hgrow hat
                        clear hown hgrow hat
                        refine hK.out _ _ (fun _ _ => RR.S) (fun hHeld => ?_)
                        clear hK K
                        try simp only [Act.put, List.setIfInBounds_toArray, List.set_cons_zero, List.set_cons_succ]
                        refine wpAnyT_ready (rs := [22]) (by kernel_rfl) (by simp) ?_
                        (refine' AllReadyT.cons (o := ?o42) ?ho42 (fun K hK => ?step42) AllReadyT.nil; (case ho42 => simp only [List.getElem?_toArray, List.getElem?_cons_zero, List.getElem?_cons_succ]; rfl))
                        go_simp
                        have RR := RR.lit #[.int .i64 (besV l.ps P 0), .int .i64 (besV l.ps P 1), .int .i64 (besV l.ps P 2), .int .i64 (besV l.ps P 3)] 187
                        obtain ⟨Y5, hY⟩ : ∃ Y, Y = Y4.alloc (.cells #[.int .i64 (besV l.ps P 0), .int .i64 (besV l.ps P 1), .int .i64 (besV l.ps P 2), .int .i64 (besV l.ps P 3)] 187) := ⟨_, rfl⟩
                        rw [← hY] at RR ⊢
                        clear hY
                        obtain ⟨L3, hL⟩ : ∃ L, L = Y4.heap.size := ⟨_, rfl⟩
                        rw [← hL] at RR ⊢
                        clear hL
                        refine hK.out _ _ (fun _ _ => RR.S) (fun hHeld => ?_)
                        clear hK K
                        try simp only [Act.put, List.setIfInBounds_toArray, List.set_cons_zero, List.set_cons_succ]
                        refine wpAnyT_ready (rs := [23]) (by kernel_rfl) (by simp) ?_
                        (refine' AllReadyT.cons (o := ?o43) ?ho43 (fun K hK => ?step43) AllReadyT.nil; (case ho43 => simp only [List.getElem?_toArray, List.getElem?_cons_zero, List.getElem?_cons_succ]; rfl))
                        refine step_append_lies _ (by rfl) _ _ _ (by rfl) (w.heap.size + 2) 187 i3 _ 4 32 Tryz.underlying181 hi3 hiz3 hix3 hiy3 rfl (by omega) v3 k (flat (besC l.ps) (l.ps.take k)) (by rfl) RR.r3 ⟨L3, 0, none⟩ 1 1 (Array.toList #[.int .i64 (besV l.ps P 0), .int .i64 (besV l.ps P 1), .int .i64 (besV l.ps P 2), .int .i64 (besV l.ps P 3)]) (by rfl) (by rfl) (World.news_of_block (RR.lits (L3, #[.int .i64 (besV l.ps P 0), .int .i64 (besV l.ps P 1), .int .i64 (besV l.ps P 2), .int .i64 (besV l.ps P 3)], 187) (by simp)).2) (besC_one l.ps P) (by omega) (by unfold maxLen; omega) (by omega) (by have : b8 + 1 + 1 < Y5.heap.size := (RR.o11.lt _ rfl).2; omega) _ rfl ?_
                        intro g3 cap3 Y6 hown hgrow hat hlt3
                        have RR := RR.app3 hl3 hown hgrow hat
                        clear hown hgrow hat
                        refine hK.out _ _ (fun _ _ => RR.S) (fun hHeld => ?_)
                        clear hK K
                        try simp only [Act.put, List.setIfInBounds_toArray, List.set_cons_zero, List.set_cons_succ]
                        exact TAIL L1 L2 L3 g1 cap1 g2 cap2 g3 cap3 Y6 RR.forget
                      (refine' AllReadyT.cons (o := ?o44) ?ho44 (fun K hK => ?step44) AllReadyT.nil; (case ho44 => simp only [List.getElem?_toArray, List.getElem?_cons_zero, List.getElem?_cons_succ]; rfl))
                      go_simp
                      have RR := RR.lit #[.int .i64 (besV l.ps P 0), .int .i64 (besV l.ps P 1), .int .i64 (besV l.ps P 2), .int .i64 (besV l.ps P 3)] 187
                      obtain ⟨Y4, hY⟩ : ∃ Y, Y = Y3.alloc (.cells #[.int .i64 (besV l.ps P 0), .int .i64 (besV l.ps P 1), .int .i64 (besV l.ps P 2), .int .i64 (besV l.ps P 3)] 187) := ⟨_, rfl⟩
                      rw [← hY] at RR ⊢
                      clear hY
                      obtain ⟨L3, hL⟩ : ∃ L, L = Y3.heap.size := ⟨_, rfl⟩
                      rw [← hL] at RR ⊢
                      clear hL
                      refine hK.out _ _ (fun _ _ => RR.S) (fun hHeld => ?_)
                      clear hK K
                      try simp only [Act.put, List.setIfInBounds_toArray, List.set_cons_zero, List.set_cons_succ]
                      refine wpAnyT_ready (rs := [16]) (by kernel_rfl) (by simp) ?_
                      (refine' AllReadyT.cons (o := ?o45) ?ho45 (fun K hK => ?step45) AllReadyT.nil; (case ho45 => simp only [List.getElem?_toArray, List.getElem?_cons_zero, List.getElem?_cons_succ]; rfl))
                      refine step_append_lies _ (by rfl) _ _ _ (by rfl) (w.heap.size + 2) 186 i2 _ 4 4 Tryz.underlying180 hi2 hiz2 hix2 hiy2 rfl (by omega) v2 k (flat hitC (l.ps.take k)) (by rfl) RR.r2 ⟨L2, 0, none⟩ 1 1 (Array.toList #[.int .u8 (hv0 P 0), .int .u8 (hv0 P 1), .int .u8 (hv0 P 2), .int .u8 (hv0 P 3)]) (by rfl) (by rfl) (World.news_of_block (RR.lits (L2, #[.int .u8 (hv0 P 0), .int .u8 (hv0 P 1), .int .u8 (hv0 P 2), .int .u8 (hv0 P 3)], 186) (by simp)).2) (hitC_one P) (by omega) (by unfold maxLen; omega) (by omega) (by have : b8 + 1 + 1 < Y4.heap.size := (RR.o11.lt _ rfl).2; omega) _ rfl ?_
                      intro g2 cap2 Y5 hown hgrow hat hlt2
                      have RR := RR.app2 hl2 hown hgrow hat
                      clear hown hgrow hat
                      refine hK.out _ _ (fun _ _ => RR.S) (fun hHeld => ?_)
                      clear hK K
                      try simp only [Act.put, List.setIfInBounds_toArray, List.set_cons_zero, List.set_cons_succ]
                      refine wpAnyT_ready (rs := [23]) (by kernel_rfl) (by simp) ?_
                      (refine' AllReadyT.cons (o := ?o46) ?ho46 (fun K hK => ?step46) AllReadyT.nil; (case ho46 => simp only [List.getElem?_toArray, List.getElem?_cons_zero, List.getElem?_cons_succ]; rfl))
                      refine step_append_lies _ (by rfl) _ _ _ (by rfl) (w.heap.size + 2) 187 i3 _ 4 32 Tryz.underlying181 hi3 hiz3 hix3 hiy3 rfl (by omega) v3 k (flat (besC l.ps) (l.ps.take k)) (by rfl) RR.r3 ⟨L3, 0, none⟩ 1 1 (Array.toList #[.int .i64 (besV l.ps P 0), .int .i64 (besV l.ps P 1), .int .i64 (besV l.ps P 2), .int .i64 (besV l.ps P 3)]) (by rfl) (by rfl) (World.news_of_block (RR.lits (L3, #[.int .i64 (besV l.ps P 0), .int .i64 (besV l.ps P 1), .int .i64 (besV l.ps P 2), .int .i64 (besV l.ps P 3)], 187) (by simp)).2) (besC_one l.ps P) (by omega) (by unfold maxLen; omega) (by omega) (by have : b8 + 1 + 1 < Y5.heap.size := (RR.o11.lt _ rfl).2; omega) _ rfl ?_
                      intro g3 cap3 Y6 hown hgrow hat hlt3
                      have RR := RR.app3 hl3 hown hgrow hat
                      clear hown hgrow hat
                      refine hK.out _ _ (fun _ _ => RR.S) (fun hHeld => ?_)
                      clear hK K
                      try simp only [Act.put, List.setIfInBounds_toArray, List.set_cons_zero, List.set_cons_succ]
                      exact TAIL L1 L2 L3 g1 cap1 g2 cap2 g3 cap3 Y6 RR.forget
                    (refine' AllReadyT.cons (o := ?o47) ?ho47 (fun K hK => ?step47) AllReadyT.nil; (case ho47 => simp only [List.getElem?_toArray, List.getElem?_cons_zero, List.getElem?_cons_succ]; rfl))
                    go_simp
                    have RR := RR.lit #[.int .i64 (besV l.ps P 0), .int .i64 (besV l.ps P 1), .int .i64 (besV l.ps P 2), .int .i64 (besV l.ps P 3)] 187
                    obtain ⟨Y3, hY⟩ : ∃ Y, Y = Y2.alloc (.cells #[.int .i64 (besV l.ps P 0), .int .i64 (besV l.ps P 1), .int .i64 (besV l.ps P 2), .int .i64 (besV l.ps P 3)] 187) := ⟨_, rfl⟩
                    rw [← hY] at RR ⊢
                    clear hY
                    obtain ⟨L3, hL⟩ : ∃ L, L = Y2.heap.size := ⟨_, rfl⟩
                    rw [← hL] at RR ⊢
                    clear hL
                    refine hK.out _ _ (fun _ _ => RR.S) (fun hHeld => ?_)
                    clear hK K
                    try simp only [Act.put, List.setIfInBounds_toArray, List.set_cons_zero, List.set_cons_succ]
                    refine wpAnyT_ready (rs := [9]) (by kernel_rfl) (by simp) ?_
                    (refine' AllReadyT.cons (o := ?o48) ?ho48 (fun K hK => ?step48) AllReadyT.nil; (case ho48 => simp only [List.getElem?_toArray, List.getElem?_cons_zero, List.getElem?_cons_succ]; rfl))
                    refine step_append_lies _ (by rfl) _ _ _ (by rfl) (w.heap.size + 2) 185 i1 _ 1 1 Tryz.underlying179 hi1 hiz1 hix1 hiy1 rfl (by omega) v1 k (flat canC (l.ps.take k)) (by rfl) RR.r1 ⟨L1, 0, none⟩ 1 1 (Array.toList #[.int .u8 cv]) (by rfl) (by rfl) (World.news_of_block (RR.lits (L1, #[.int .u8 cv], 185) (by simp)).2) HONE.out (by omega) (by unfold maxLen; omega) (by omega) (by have : b8 + 1 + 1 < Y3.heap.size := (RR.o11.lt _ rfl).2; omega) _ rfl ?_
                    intro g1 cap1 Y4 hown hgrow hat hlt1
                    have RR := RR.app1 hl1 hown hgrow hat
                    clear hown hgrow hat
                    refine hK.out _ _ (fun _ _ => RR.S) (fun hHeld => ?_)
                    clear hK K
                    try simp only [Act.put, List.setIfInBounds_toArray, List.set_cons_zero, List.set_cons_succ]
                    refine wpAnyT_ready (rs := [16]) (by kernel_rfl) (by simp) ?_
                    (refine' AllReadyT.cons (o := ?o49) ?ho49 (fun K hK => ?step49) AllReadyT.nil; (case ho49 => simp only [List.getElem?_toArray, List.getElem?_cons_zero, List.getElem?_cons_succ]; rfl))
                    refine step_append_lies _ (by rfl) _ _ _ (by rfl) (w.heap.size + 2) 186 i2 _ 4 4 Tryz.underlying180 hi2 hiz2 hix2 hiy2 rfl (by omega) v2 k (flat hitC (l.ps.take k)) (by rfl) RR.r2 ⟨L2, 0, none⟩ 1 1 (Array.toList #[.int .u8 (hv0 P 0), .int .u8 (hv0 P 1), .int .u8 (hv0 P 2), .int .u8 (hv0 P 3)]) (by rfl) (by rfl) (World.news_of_block (RR.lits (L2, #[.int .u8 (hv0 P 0), .int .u8 (hv0 P 1), .int .u8 (hv0 P 2), .int .u8 (hv0 P 3)], 186) (by simp)).2) (hitC_one P) (by omega) (by unfold maxLen; omega) (by omega) (by have : b8 + 1 + 1 < Y4.heap.size := (RR.o11.lt _ rfl).2; omega) _ rfl ?_
                    intro g2 cap2 Y5 hown hgrow hat hlt2
                    have RR := RR.app2 hl2 hown hgrow hat
                    clear hown hgrow hat
                    refine hK.out _ _ (fun _ _ => RR.S) (fun hHeld => ?_)
                    clear hK K
                    try simp only [Act.put, List.setIfInBounds_toArray, List.set_cons_zero, List.set_cons_succ]
                    refine wpAnyT_ready (rs := [23]) (by kernel_rfl) (by simp) ?_
                    (refine' AllReadyT.cons (o := ?o50) ?ho50 (fun K hK => ?step50) AllReadyT.nil; (case ho50 => simp only [List.getElem?_toArray, List.getElem?_cons_zero, List.getElem?_cons_succ]; rfl))
                    refine step_append_lies _ (by rfl) _ _ _ (by rfl) (w.heap.size + 2) 187 i3 _ 4 32 Tryz.underlying181 hi3 hiz3 hix3 hiy3 rfl (by omega) v3 k (flat (besC l.ps) (l.ps.take k)) (by rfl) RR.r3 ⟨L3, 0, none⟩ 1 1 (Array.toList #[.int .i64 (besV l.ps P 0), .int .i64 (besV l.ps P 1), .int .i64 (besV l.ps P 2), .int .i64 (besV l.ps P 3)]) (by rfl) (by rfl) (World.news_of_block (RR.lits (L3, #[.int .i64 (besV l.ps P 0), .int .i64 (besV l.ps P 1), .int .i64 (besV l.ps P 2), .int .i64 (besV l.ps P 3)], 187) (by simp)).2) (besC_one l.ps P) (by omega) (by unfold maxLen; omega) (by omega) (by have : b8 + 1 + 1 < Y5.heap.size := (RR.o11.lt _ rfl).2; omega) _ rfl ?_
                    intro g3 cap3 Y6 hown hgrow hat hlt3
                    have RR := RR.app3 hl3 hown hgrow hat
                    clear hown hgrow hat
                    refine hK.out _ _ (fun _ _ => RR.S) (fun hHeld => ?_)
                    clear hK K
                    try simp only [Act.put, List.setIfInBounds_toArray, List.set_cons_zero, List.set_cons_succ]
                    exact TAIL L1 L2 L3 g1 cap1 g2 cap2 g3 cap3 Y6 RR.forget
                  (refine' AllReadyT.cons (o := ?o51) ?ho51 (fun K hK => ?step51) AllReadyT.nil; (case ho51 => simp only [List.getElem?_toArray, List.getElem?_cons_zero, List.getElem?_cons_succ]; rfl))
                  go_simp
                  have RR := RR.lit #[.int .i64 (besV l.ps P 0), .int .i64 (besV l.ps P 1), .int .i64 (besV l.ps P 2), .int .i64 (besV l.ps P 3)] 187
                  obtain ⟨Y2, hY⟩ : ∃ Y, Y = Y1.alloc (.cells #[.int .i64 (besV l.ps P 0), .int .i64 (besV l.ps P 1), .int .i64 (besV l.ps P 2), .int .i64 (besV l.ps P 3)] 187) := ⟨_, rfl⟩
                  rw [← hY] at RR ⊢
                  clear hY
                  obtain ⟨L3, hL⟩ : ∃ L, L = Y1.heap.size := ⟨_, rfl⟩
                  rw [← hL] at RR ⊢
                  clear hL
                  refine hK.out _ _ (fun _ _ => RR.S) (fun hHeld => ?_)
                  clear hK K
                  try simp only [Act.put, List.setIfInBounds_toArray, List.set_cons_zero, List.set_cons_succ]
                  refine wpAnyT_ready (rs := [9, 15]) (by kernel_rfl) (by simp) ?_
                  (refine' AllReadyT.cons (o := ?o26) ?ho26 (fun K hK => ?step26) ?more26; (case ho26 => simp only [List.getElem?_toArray, List.getElem?_cons_zero, List.getElem?_cons_succ]; rfl))
                  · refine step_append_lies _ (by rfl) _ _ _ (by rfl) (w.heap.size + 2) 185 i1 _ 1 1 Tryz.underlying179 hi1 hiz1 hix1 hiy1 rfl (by omega) v1 k (flat canC (l.ps.take k)) (by rfl) RR.r1 ⟨L1, 0, none⟩ 1 1 (Array.toList #[.int .u8 cv]) (by rfl) (by rfl) (World.news_of_block (RR.lits (L1, #[.int .u8 cv], 185) (by simp)).2) HONE.out (by omega) (by unfold maxLen; omega) (by omega) (by have : b8 + 1 + 1 < Y2.heap.size := (RR.o11.lt _ rfl).2; omega) _ rfl ?_
                    intro g1 cap1 Y3 hown hgrow hat hlt1
                    have RR := RR.app1 hl1 hown hgrow hat
                    clear hown hgrow hat
                    refine hK.out _ _ (fun _ _ => RR.S) (fun hHeld => ?_)
                    clear hK K
                    try simp only [Act.put, List.setIfInBounds_toArray, List.set_cons_zero, List.set_cons_succ]
                    refine wpAnyT_ready (rs := [15]) (by kernel_rfl) (by simp) ?_
                    (refine' AllReadyT.cons (o := ?o52) ?ho52 (fun K hK => ?step52) AllReadyT.nil; (case ho52 => simp only [List.getElem?_toArray, List.getElem?_cons_zero, List.getElem?_cons_succ]; rfl))
                    go_simp
                    have RR := RR.lit #[.int .u8 (hv0 P 0), .int .u8 (hv0 P 1), .int .u8 (hv0 P 2), .int .u8 (hv0 P 3)] 186
                    obtain ⟨Y4, hY⟩ : ∃ Y, Y = Y3.alloc (.cells #[.int .u8 (hv0 P 0), .int .u8 (hv0 P 1), .int .u8 (hv0 P 2), .int .u8 (hv0 P 3)] 186) := ⟨_, rfl⟩
                    rw [← hY] at RR ⊢
                    clear hY
                    obtain ⟨L2, hL⟩ : ∃ L, L = Y3.heap.size := ⟨_, rfl⟩
                    rw [← hL] at RR ⊢
                    clear hL
                    refine hK.out _ _ (fun _ _ => RR.S) (fun hHeld => ?_)
                    clear hK K
                    try simp only [Act.put, List.setIfInBounds_toArray, List.set_cons_zero, List.set_cons_succ]
                    refine wpAnyT_ready (rs := [16]) (by kernel_rfl) (by simp) ?_
                    (refine' AllReadyT.cons (o := ?o53) ?ho53 (fun K hK => ?step53) AllReadyT.nil; (case ho53 => simp only [List.getElem?_toArray, List.getElem?_cons_zero, List.getElem?_cons_succ]; rfl))
                    refine step_append_lies _ (by rfl) _ _ _ (by rfl) (w.heap.size + 2) 186 i2 _ 4 4 Tryz.underlying180 hi2 hiz2 hix2 hiy2 rfl (by omega) v2 k (flat hitC (l.ps.take k)) (by rfl) RR.r2 ⟨L2, 0, none⟩ 1 1 (Array.toList #[.int .u8 (hv0 P 0), .int .u8 (hv0 P 1), .int .u8 (hv0 P 2), .int .u8 (hv0 P 3)]) (by rfl) (by rfl) (World.news_of_block (RR.lits (L2, #[.int .u8 (hv0 P 0), .int .u8 (hv0 P 1), .int .u8 (hv0 P 2), .int .u8 (hv0 P 3)], 186) (by simp)).2) (hitC_one P) (by omega) (by unfold maxLen; omega) (by omega) (by have : b8 + 1 + 1 < Y4.heap.size := (RR.o11.lt _ rfl).2; omega) _ rfl ?_
                    intro g2 cap2 Y5 hown hgrow hat hlt2
                    have RR := RR.app2 hl2 hown hgrow hat
                    clear hown hgrow hat
                    refine hK.out _ _ (fun _ _ => RR.S) (fun hHeld => ?_)
                    clear hK K
                    try simp only [Act.put, List.setIfInBounds_toArray, List.set_cons_zero, List.set_cons_succ]
                    refine wpAnyT_ready (rs := [23]) (by kernel_rfl) (by simp) ?_
                    (refine' AllReadyT.cons (o := ?o54) ?ho54 (fun K hK => ?step54) AllReadyT.nil; (case ho54 => simp only [List.getElem?_toArray, List.getElem?_cons_zero, List.getElem?_cons_succ]; rfl))
                    refine step_append_lies _ (by rfl) _ _ _ (by rfl) (w.heap.size + 2) 187 i3 _ 4 32 Tryz.underlying181 hi3 hiz3 hix3 hiy3 rfl (by omega) v3 k (flat (besC l.ps) (l.ps.take k)) (by rfl) RR.r3 ⟨L3, 0, none⟩ 1 1 (Array.toList #[.int .i64 (besV l.ps P 0), .int .i64 (besV l.ps P 1), .int .i64 (besV l.ps P 2), .int .i64 (besV l.ps P 3)]) (by rfl) (by rfl) (World.news_of_block (RR.lits (L3, #[.int .i64 (besV l.ps P 0), .int .i64 (besV l.ps P 1), .int .i64 (besV l.ps P 2), .int .i64 (besV l.ps P 3)], 187) (by simp)).2) (besC_one l.ps P) (by omega) (by unfold maxLen; omega) (by omega) (by have : b8 + 1 + 1 < Y5.heap.size := (RR.o11.lt _ rfl).2; omega) _ rfl ?_
                    intro g3 cap3 Y6 hown hgrow hat hlt3
                    have RR := RR.app3 hl3 hown hgrow hat
                    clear hown hgrow hat
                    refine hK.out _ _ (fun _ _ => RR.S) (fun hHeld => ?_)
                    clear hK K
                    try simp only [Act.put, List.setIfInBounds_toArray, List.set_cons_zero, List.set_cons_succ]
                    exact TAIL L1 L2 L3 g1 cap1 g2 cap2 g3 cap3 Y6 RR.forget
                  (refine' AllReadyT.cons (o := ?o55) ?ho55 (fun K hK => ?step55) AllReadyT.nil; (case ho55 => simp only [List.getElem?_toArray, List.getElem?_cons_zero, List.getElem?_cons_succ]; rfl))
                  go_simp
                  have RR := RR.lit #[.int .u8 (hv0 P 0), .int .u8 (hv0 P 1), .int .u8 (hv0 P 2), .int .u8 (hv0 P 3)] 186
                  obtain ⟨Y3, hY⟩ : ∃ Y, Y = Y2.alloc (.cells #[.int .u8 (hv0 P 0), .int .u8 (hv0 P 1), .int .u8 (hv0 P 2), .int .u8 (hv0 P 3)] 186) := ⟨_, rfl⟩
                  rw [← hY] at RR ⊢
                  clear hY
                  obtain ⟨L2, hL⟩ : ∃ L, L = Y2.heap.size := ⟨_, rfl⟩
                  rw [← hL] at RR ⊢
                  clear hL
                  refine hK.out _ _ (fun _ _ => RR.S) (fun hHeld => ?_)
                  clear hK K
                  try simp only [Act.put, List.setIfInBounds_toArray, List.set_cons_zero, List.set_cons_succ]
                  refine wpAnyT_ready (rs := [9]) (by kernel_rfl) (by simp) ?_
                  (refine' AllReadyT.cons (o := ?o56) ?ho56 (fun K hK => ?step56) AllReadyT.nil; (case ho56 => simp only [List.getElem?_toArray, List.getElem?_cons_zero, List.getElem?_cons_succ]; rfl))
                  refine step_append_lies _ (by rfl) _ _ _ (by rfl) (w.heap.size + 2) 185 i1 _ 1 1 Tryz.underlying179 hi1 hiz1 hix1 hiy1 rfl (by omega) v1 k (flat canC (l.ps.take k)) (by rfl) RR.r1 ⟨L1, 0, none⟩ 1 1 (Array.toList #[.int .u8 cv]) (by rfl) (by rfl) (World.news_of_block (RR.lits (L1, #[.int .u8 cv], 185) (by simp)).2) HONE.out (by omega) (by unfold maxLen; omega) (by omega) (by have : b8 + 1 + 1 < Y3.heap.size := (RR.o11.lt _ rfl).2; omega) _ rfl ?_
                  intro g1 cap1 Y4 hown hgrow hat hlt1
                  have RR := RR.app1 hl1 hown hgrow hat
                  clear hown hgrow hat
                  refine hK.out _ _ (fun _ _ => RR.S) (fun hHeld => ?_)
                  clear hK K
                  try simp only [Act.put, List.setIfInBounds_toArray, List.set_cons_zero, List.set_cons_succ]
                  refine wpAnyT_ready (rs := [16]) (by kernel_rfl) (by simp) ?_
                  (refine' AllReadyT.cons (o := ?o57) ?ho57 (fun K hK => ?step57) AllReadyT.nil; (case ho57 => simp only [List.getElem?_toArray, List.getElem?_cons_zero, List.getElem?_cons_succ]; rfl))
                  refine step_append_lies _ (by rfl) _ _ _ (by rfl) (w.heap.size + 2) 186 i2 _ 4 4 Tryz.underlying180 hi2 hiz2 hix2 hiy2 rfl (by omega) v2 k (flat hitC (l.ps.take k)) (by rfl) RR.r2 ⟨L2, 0, none⟩ 1 1 (Array.toList #[.int .u8 (hv0 P 0), .int .u8 (hv0 P 1), .int .u8 (hv0 P 2), .int .u8 (hv0 P 3)]) (by rfl) (by rfl) (World.news_of_block (RR.lits (L2, #[.int .u8 (hv0 P 0), .int .u8 (hv0 P 1), .int .u8 (hv0 P 2), .int .u8 (hv0 P 3)], 186) (by simp)).2) (hitC_one P) (by omega) (by unfold maxLen; omega) (by omega) (by have : b8 + 1 + 1 < Y4.heap.size := (RR.o11.lt _ rfl).2; omega) _ rfl ?_
                  intro g2 cap2 Y5 hown hgrow hat hlt2
                  have RR := RR.app2 hl2 hown hgrow hat
                  clear hown hgrow hat
                  refine hK.out _ _ (fun _ _ => RR.S) (fun hHeld => ?_)
                  clear hK K
                  try simp only [Act.put, List.setIfInBounds_toArray, List.set_cons_zero, List.set_cons_succ]
                  refine wpAnyT_ready (rs := [23]) (by kernel_rfl) (by simp) ?_
                  (refine' AllReadyT.cons (o := ?o58) ?ho58 (fun K hK => ?step58) AllReadyT.nil; (case ho58 => simp only [List.getElem?_toArray, List.getElem?_cons_zero, List.getElem?_cons_succ]; rfl))
                  refine step_append_lies _ (by rfl) _ _ _ (by rfl) (w.heap.size + 2) 187 i3 _ 4 32 Tryz.underlying181 hi3 hiz3 hix3 hiy3 rfl (by omega) v3 k (flat (besC l.ps) (l.ps.take k)) (by rfl) RR.r3 ⟨L3, 0, none⟩ 1 1 (Array.toList #[.int .i64 (besV l.ps P 0), .int .i64 (besV l.ps P 1), .int .i64 (besV l.ps P 2), .int .i64 (besV l.ps P 3)]) (by rfl) (by rfl) (World.news_of_block (RR.lits (L3, #[.int .i64 (besV l.ps P 0), .int .i64 (besV l.ps P 1), .int .i64 (besV l.ps P 2), .int .i64 (besV l.ps P 3)], 187) (by simp)).2) (besC_one l.ps P) (by omega) (by unfold maxLen; omega) (by omega) (by have : b8 + 1 + 1 < Y5.heap.size := (RR.o11.lt _ rfl).2; omega) _ rfl ?_
                  intro g3 cap3 Y6 hown hgrow hat hlt3
                  have RR := RR.app3 hl3 hown hgrow hat
                  clear hown hgrow hat
                  refine hK.out _ _ (fun _ _ => RR.S) (fun hHeld => ?_)
                  clear hK K
                  try simp only [Act.put, List.setIfInBounds_toArray, List.set_cons_zero, List.set_cons_succ]
                  exact TAIL L1 L2 L3 g1 cap1 g2 cap2 g3 cap3 Y6 RR.forget
                (refine' AllReadyT.cons (o := ?o27) ?ho27 (fun K hK => ?step27) ?more27; (case ho27 => simp only [List.getElem?_toArray, List.getElem?_cons_zero, List.getElem?_cons_succ]; rfl))
                · go_simp
                  have RR := RR.lit #[.int .u8 (hv0 P 0), .int .u8 (hv0 P 1), .int .u8 (hv0 P 2), .int .u8 (hv0 P 3)] 186
                  obtain ⟨Y1, hY⟩ : ∃ Y, Y = Y0.alloc (.cells #[.int .u8 (hv0 P 0), .int .u8 (hv0 P 1), .int .u8 (hv0 P 2), .int .u8 (hv0 P 3)] 186) := ⟨_, rfl⟩
                  rw [← hY] at RR ⊢
                  clear hY
                  obtain ⟨L2, hL⟩ : ∃ L, L = Y0.heap.size := ⟨_, rfl⟩
                  rw [← hL] at RR ⊢
                  clear hL
                  refine hK.out _ _ (fun _ _ => RR.S) (fun hHeld => ?_)
                  clear hK K
                  try simp only [Act.put, List.setIfInBounds_toArray, List.set_cons_zero, List.set_cons_succ]
                  refine wpAnyT_ready (rs := [8, 22]) (by kernel_rfl) (by simp) ?_
                  (refine' AllReadyT.cons (o := ?o28) ?ho28 (fun K hK => ?step28) ?more28; (case ho28 => simp only [List.getElem?_toArray, List.getElem?_cons_zero, List.getElem?_cons_succ]; rfl))
                  · go_simp
                    have RR := RR.lit #[.int .u8 cv] 185
                    obtain ⟨Y2, hY⟩ : ∃ Y, Y = Y1.alloc (.cells #[.int .u8 cv] 185) := ⟨_, rfl⟩
                    rw [← hY] at RR ⊢
                    clear hY
                    obtain ⟨L1, hL⟩ : ∃ L, L = Y1.heap.size := ⟨_, rfl⟩
                    rw [← hL] at RR ⊢
                    clear hL
                    refine hK.out _ _ (fun _ _ => RR.S) (fun hHeld => ?_)
                    clear hK K
                    try simp only [Act.put, List.setIfInBounds_toArray, List.set_cons_zero, List.set_cons_succ]
                    refine wpAnyT_ready (rs := [9, 22]) (by kernel_rfl) (by simp) ?_
                    (refine' AllReadyT.cons (o := ?o29) ?ho29 (fun K hK => ?step29) ?more29; (case ho29 => simp only [List.getElem?_toArray, List.getElem?_cons_zero, List.getElem?_cons_succ]; rfl))
                    · refine step_append_lies _ (by rfl) _ _ _ (by rfl) (w.heap.size + 2) 185 i1 _ 1 1 Tryz.underlying179 hi1 hiz1 hix1 hiy1 rfl (by omega) v1 k (flat canC (l.ps.take k)) (by rfl) RR.r1 ⟨L1, 0, none⟩ 1 1 (Array.toList #[.int .u8 cv]) (by rfl) (by rfl) (World.news_of_block (RR.lits (L1, #[.int .u8 cv], 185) (by simp)).2) HONE.out (by omega) (by unfold maxLen; omega) (by omega) (by have : b8 + 1 + 1 < Y2.heap.size := (RR.o11.lt _ rfl).2; omega) _ rfl ?_
                      intro g1 cap1 Y3 hown hgrow hat hlt1
                      have RR := RR.app1 hl1 hown hgrow hat
                      clear hown hgrow hat
                      refine hK.out _ _ (fun _ _ => RR.S) (fun hHeld => ?_)
                      clear hK K
                      try simp only [Act.put, List.setIfInBounds_toArray, List.set_cons_zero, List.set_cons_succ]
                      refine wpAnyT_ready (rs := [16, 22]) (by kernel_rfl) (by simp) ?_
                      (refine' AllReadyT.cons (o := ?o30) ?ho30 (fun K hK => ?step30) ?more30; (case ho30 => simp only [List.getElem?_toArray, List.getElem?_cons_zero, List.getElem?_cons_succ]; rfl))
                      · refine step_append_lies _ (by rfl) _ _ _ (by rfl) (w.heap.size + 2) 186 i2 _ 4 4 Tryz.underlying180 hi2 hiz2 hix2 hiy2 rfl (by omega) v2 k (flat hitC (l.ps.take k)) (by rfl) RR.r2 ⟨L2, 0, none⟩ 1 1 (Array.toList #[.int .u8 (hv0 P 0), .int .u8 (hv0 P 1), .int .u8 (hv0 P 2), .int .u8 (hv0 P 3)]) (by rfl) (by rfl) (World.news_of_block (RR.lits (L2, #[.int .u8 (hv0 P 0), .int .u8 (hv0 P 1), .int .u8 (hv0 P 2), .int .u8 (hv0 P 3)], 186) (by simp)).2) (hitC_one P) (by omega) (by unfold maxLen; omega) (by omega) (by have : b8 + 1 + 1 < Y3.heap.size := (RR.o11.lt _ rfl).2; omega) _ rfl ?_
                        intro g2 cap2 Y4 hown hgrow hat hlt2
                        have RR := RR.app2 hl2 hown hgrow hat
                        clear hown hgrow hat
                        refine hK.out _ _ (fun _ _ => RR.S) (fun hHeld => ?_)
                        clear hK K
                        try simp only [Act.put, List.setIfInBounds_toArray, List.set_cons_zero, List.set_cons_succ]
                        refine wpAnyT_ready (rs := [22]) (by kernel_rfl) (by simp) ?_
                        (refine' AllReadyT.cons (o := ?o59) ?ho59 (fun K hK => ?step59) AllReadyT.nil; (case ho59 => simp only [List.getElem?_toArray, List.getElem?_cons_zero, List.getElem?_cons_succ]; rfl))
                        go_simp
                        have RR := RR.lit #[.int .i64 (besV l.ps P 0), .int .i64 (besV l.ps P 1), .int .i64 (besV l.ps P 2), .int .i64 (besV l.ps P 3)] 187
                        obtain ⟨Y5, hY⟩ : ∃ Y, Y = Y4.alloc (.cells #[.int .i64 (besV l.ps P 0), .int .i64 (besV l.ps P 1), .int .i64 (besV l.ps P 2), .int .i64 (besV l.ps P 3)] 187) := ⟨_, rfl⟩
                        rw [← hY] at RR ⊢
                        clear hY
                        obtain ⟨L3, hL⟩ : ∃ L, L = Y4.heap.size := ⟨_, rfl⟩
                        rw [← hL] at RR ⊢
                        clear hL
                        refine hK.out _ _ (fun _ _ => RR.S) (fun hHeld => ?_)
                        clear hK K
                        try simp only [Act.put, List.setIfInBounds_toArray, List.set_cons_zero, List.set_cons_succ]
                        refine wpAnyT_ready (rs := [23]) (by kernel_rfl) (by simp) ?_
                        (refine' AllReadyT.cons (o := ?o60) ?ho60 (fun K hK => ?step60) AllReadyT.nil; (case ho60 => simp only [List.getElem?_toArray, List.getElem?_cons_zero, List.getElem?_cons_succ]; rfl))
                        refine step_append_lies _ (by rfl) _ _ _ (by rfl) (w.heap.size + 2) 187 i3 _ 4 32 Tryz.underlying181 hi3 hiz3 hix3 hiy3 rfl (by omega) v3 k (flat (besC l.ps) (l.ps.take k)) (by rfl) RR.r3 ⟨L3, 0, none⟩ 1 1 (Array.toList #[.int .i64 (besV l.ps P 0), .int .i64 (besV l.ps P 1), .int .i64 (besV l.ps P 2), .int .i64 (besV l.ps P 3)]) (by rfl) (by rfl) (World.news_of_block (RR.lits (L3, #[.int .i64 (besV l.ps P 0), .int .i64 (besV l.ps P 1), .int .i64 (besV l.ps P 2), .int .i64 (besV l.ps P 3)], 187) (by simp)).2) (besC_one l.ps P) (by omega) (by unfold maxLen; omega) (by omega) (by have : b8 + 1 + 1 < Y5.heap.size := (RR.o11.lt _ rfl).2; omega) _ rfl ?_
                        intro g3 cap3 Y6 hown hgrow hat hlt3
                        have RR := RR.app3 hl3 hown hgrow hat
                        clear hown hgrow hat
                        refine hK.out _ _ (fun _ _ => RR.S) (fun hHeld => ?_)
                        clear hK K
                        try simp only [Act.put, List.setIfInBounds_toArray, List.set_cons_zero, List.set_cons_succ]
                        exact TAIL L1 L2 L3 g1 cap1 g2 cap2 g3 cap3 Y6 RR.forget
                      (refine' AllReadyT.cons (o := ?o61) ?ho61 (fun K hK => ?step61) AllReadyT.nil; (case ho61 => simp only [List.getElem?_toArray, List.getElem?_cons_zero, List.getElem?_cons_succ]; rfl))
                      go_simp
                      have RR := RR.lit #[.int .i64 (besV l.ps P 0), .int .i64 (besV l.ps P 1), .int .i64 (besV l.ps P 2), .int .i64 (besV l.ps P 3)] 187
                      obtain ⟨Y4, hY⟩ : ∃ Y, Y = Y3.alloc (.cells #[.int .i64 (besV l.ps P 0), .int .i64 (besV l.ps P 1), .int .i64 (besV l.ps P 2), .int .i64 (besV l.ps P 3)] 187) := ⟨_, rfl⟩
                      rw [← hY] at RR ⊢
                      clear hY
                      obtain ⟨L3, hL⟩ : ∃ L, L = Y3.heap.size := ⟨_, rfl⟩
                      rw [← hL] at RR ⊢
                      clear hL
                      refine hK.out _ _ (fun _ _ => RR.S) (fun hHeld => ?_)
                      clear hK K
                      try simp only [Act.put, List.setIfInBounds_toArray, List.set_cons_zero, List.set_cons_succ]
                      refine wpAnyT_ready (rs := [16]) (by kernel_rfl) (by simp) ?_
                      (refine' AllReadyT.cons (o := ?o62) ?ho62 (fun K hK => ?step62) AllReadyT.nil; (case ho62 => simp only [List.getElem?_toArray, List.getElem?_cons_zero, List.getElem?_cons_succ]; rfl))
                      refine step_append_lies _ (by rfl) _ _ _ (by rfl) (w.heap.size + 2) 186 i2 _ 4 4 Tryz.underlying180 hi2 hiz2 hix2 hiy2 rfl (by omega) v2 k (flat hitC (l.ps.take k)) (by rfl) RR.r2 ⟨L2, 0, none⟩ 1 1 (Array.toList #[.int .u8 (hv0 P 0), .int .u8 (hv0 P 1), .int .u8 (hv0 P 2), .int .u8 (hv0 P 3)]) (by rfl) (by rfl) (World.news_of_block (RR.lits (L2, #[.int .u8 (hv0 P 0), .int .u8 (hv0 P 1), .int .u8 (hv0 P 2), .int .u8 (hv0 P 3)], 186) (by simp)).2) (hitC_one P) (by omega) (by unfold maxLen; omega) (by omega) (by have : b8 + 1 + 1 < Y4.heap.size := (RR.o11.lt _ rfl).2; omega) _ rfl ?_
                      intro g2 cap2 Y5 hown hgrow hat hlt2
                      have RR := RR.app2 hl2 hown hgrow hat
                      clear hown hgrow hat
                      refine hK.out _ _ (fun _ _ => RR.S) (fun hHeld => ?_)
                      clear hK K
                      try simp only [Act.put, List.setIfInBounds_toArray, List.set_cons_zero, List.set_cons_succ]
                      refine wpAnyT_ready (rs := [23]) (by kernel_rfl) (by simp) ?_
                      (refine' AllReadyT.cons (o := ?o63) ?ho63 (fun K hK => ?step63) AllReadyT.nil; (case ho63 => simp only [List.getElem?_toArray, List.getElem?_cons_zero, List.getElem?_cons_succ]; rfl))
                      refine step_append_lies _ (by rfl) _ _ _ (by rfl) (w.heap.size + 2) 187 i3 _ 4 32 Tryz.underlying181 hi3 hiz3 hix3 hiy3 rfl (by omega) v3 k (flat (besC l.ps) (l.ps.take k)) (by rfl) RR.r3 ⟨L3, 0, none⟩ 1 1 (Array.toList #[.int .i64 (besV l.ps P 0), .int .i64 (besV l.ps P 1), .int .i64 (besV l.ps P 2), .int .i64 (besV l.ps P 3)]) (by rfl) (by rfl) (World.news_of_block (RR.lits (L3, #[.int .i64 (besV l.ps P 0), .int .i64 (besV l.ps P 1), .int .i64 (besV l.ps P 2), .int .i64 (besV l.ps P 3)], 187) (by simp)).2) (besC_one l.ps P) (by omega) (by unfold maxLen; omega) (by omega) (by have : b8 + 1 + 1 < Y5.heap.size := (RR.o11.lt _ rfl).2; omega) _ rfl ?_
                      intro g3 cap3 Y6 hown hgrow hat hlt3
                      have RR := RR.app3 hl3 hown hgrow hat
                      clear hown hgrow hat
                      refine hK.out _ _ (fun _ _ => RR.S) (fun hHeld => ?_)
                      clear hK K
                      try simp only [Act.put, List.setIfInBounds_toArray, List.set_cons_zero, List.set_cons_succ]
                      exact TAIL L1 L2 L3 g1 cap1 g2 cap2 g3 cap3 Y6 RR.forget
                    (refine' AllReadyT.cons (o := ?o64) ?ho64 (fun K hK => ?step64) AllReadyT.nil; (case ho64 => simp only [List.getElem?_toArray, List.getElem?_cons_zero, List.getElem?_cons_succ]; rfl))
                    go_simp
                    have RR := RR.lit #[.int .i64 (besV l.ps P 0), .int .i64 (besV l.ps P 1), .int .i64 (besV l.ps P 2), .int .i64 (besV l.ps P 3)] 187
                    obtain ⟨Y3, hY⟩ : ∃ Y, Y = Y2.alloc (.cells #[.int .i64 (besV l.ps P 0), .int .i64 (besV l.ps P 1), .int .i64 (besV l.ps P 2), .int .i64 (besV l.ps P 3)] 187) := ⟨_, rfl⟩
                    rw [← hY] at RR ⊢
                    clear hY
                    obtain ⟨L3, hL⟩ : ∃ L, L = Y2.heap.size := ⟨_, rfl⟩
                    rw [← hL] at RR ⊢
                    clear hL
                    refine hK.out _ _ (fun _ _ => RR.S) (fun hHeld => ?_)
                    clear hK K
                    try simp only [Act.put, List.setIfInBounds_toArray, List.set_cons_zero, List.set_cons_succ]
                    refine wpAnyT_ready (rs := [9]) (by kernel_rfl) (by simp) ?_
                    (refine' AllReadyT.cons (o := ?o65) ?ho65 (fun K hK => ?step65) AllReadyT.nil; (case ho65 => simp only [List.getElem?_toArray, List.getElem?_cons_zero, List.getElem?_cons_succ]; rfl))
                    refine step_append_lies _ (by rfl) _ _ _ (by rfl) (w.heap.size + 2) 185 i1 _ 1 1 Tryz.underlying179 hi1 hiz1 hix1 hiy1 rfl (by omega) v1 k (flat canC (l.ps.take k)) (by rfl) RR.r1 ⟨L1, 0, none⟩ 1 1 (Array.toList #[.int .u8 cv]) (by rfl) (by rfl) (World.news_of_block (RR.lits (L1, #[.int .u8 cv], 185) (by simp)).2) HONE.out (by omega) (by unfold maxLen; omega) (by omega) (by have : b8 + 1 + 1 < Y3.heap.size := (RR.o11.lt _ rfl).2; omega) _ rfl ?_
                    intro g1 cap1 Y4 hown hgrow hat hlt1
                    have RR := RR.app1 hl1 hown hgrow hat
                    clear hown hgrow hat
                    refine hK.out _ _ (fun _ _ => RR.S) (fun hHeld => ?_)
                    clear hK K
                    try simp only [Act.put, List.setIfInBounds_toArray, List.set_cons_zero, List.set_cons_succ]
                    refine wpAnyT_ready (rs := [16]) (by kernel_rfl) (by simp) ?_
                    (refine' AllReadyT.cons (o := ?o66) ?ho66 (fun K hK => ?step66) AllReadyT.nil; (case ho66 => simp only [List.getElem?_toArray, List.getElem?_cons_zero, List.getElem?_cons_succ]; rfl))
                    refine step_append_lies _ (by rfl) _ _ _ (by rfl) (w.heap.size + 2) 186 i2 _ 4 4 Tryz.underlying180 hi2 hiz2 hix2 hiy2 rfl (by omega) v2 k (flat hitC (l.ps.take k)) (by rfl) RR.r2 ⟨L2, 0, none⟩ 1 1 (Array.toList #[.int .u8 (hv0 P 0), .int .u8 (hv0 P 1), .int .u8 (hv0 P 2), .int .u8 (hv0 P 3)]) (by rfl) (by rfl) (World.news_of_block (RR.lits (L2, #[.int .u8 (hv0 P 0), .int .u8 (hv0 P 1), .int .u8 (hv0 P 2), .int .u8 (hv0 P 3)], 186) (by simp)).2) (hitC_one P) (by omega) (by unfold maxLen; omega) (by omega) (by have : b8 + 1 + 1 < Y4.heap.size := (RR.o11.lt _ rfl).2; omega) _ rfl ?_
                    intro g2 cap2 Y5 hown hgrow hat hlt2
                    have RR := RR.app2 hl2 hown hgrow hat
                    clear hown hgrow hat
                    refine hK.out _ _ (fun _ _ => RR.S) (fun hHeld => ?_)
                    clear hK K
                    try simp only [Act.put, List.setIfInBounds_toArray, List.set_cons_zero, List.set_cons_succ]
                    refine wpAnyT_ready (rs := [23]) (by kernel_rfl) (by simp) ?_
                    (refine' AllReadyT.cons (o := ?o67) ?ho67 (fun K hK => ?step67) AllReadyT.nil; (case ho67 => simp only [List.getElem?_toArray, List.getElem?_cons_zero, List.getElem?_cons_succ]; rfl))
                    refine step_append_lies _ (by rfl) _ _ _ (by rfl) (w.heap.size + 2) 187 i3 _ 4 32 Tryz.underlying181 hi3 hiz3 hix3 hiy3 rfl (by omega) v3 k (flat (besC l.ps) (l.ps.take k)) (by rfl) RR.r3 ⟨L3, 0, none⟩ 1 1 (Array.toList #[.int .i64 (besV l.ps P 0), .int .i64 (besV l.ps P 1), .int .i64 (besV l.ps P 2), .int .i64 (besV l.ps P 3)]) (by rfl) (by rfl) (World.news_of_block (RR.lits (L3, #[.int .i64 (besV l.ps P 0), .int .i64 (besV l.ps P 1), .int .i64 (besV l.ps P 2), .int .i64 (besV l.ps P 3)], 187) (by simp)).2) (besC_one l.ps P) (by omega) (by unfold maxLen; omega) (by omega) (by have : b8 + 1 + 1 < Y5.heap.size := (RR.o11.lt _ rfl).2; omega) _ rfl ?_
                    intro g3 cap3 Y6 hown hgrow hat hlt3
                    have RR := RR.app3 hl3 hown hgrow hat
                    clear hown hgrow hat
                    refine hK.out _ _ (fun _ _ => RR.S) (fun hHeld => ?_)
                    clear hK K
                    try simp only [Act.put, List.setIfInBounds_toArray, List.set_cons_zero, List.set_cons_succ]
                    exact TAIL L1 L2 L3 g1 cap1 g2 cap2 g3 cap3 Y6 RR.forget
                  (refine' AllReadyT.cons (o := ?o68) ?ho68 (fun K hK => ?step68) AllReadyT.nil; (case ho68 => simp only [List.getElem?_toArray, List.getElem?_cons_zero, List.getElem?_cons_succ]; rfl))
                  go_simp
                  have RR := RR.lit #[.int .i64 (besV l.ps P 0), .int .i64 (besV l.ps P 1), .int .i64 (besV l.ps P 2), .int .i64 (besV l.ps P 3)] 187
                  obtain ⟨Y2, hY⟩ : ∃ Y, Y = Y1.alloc (.cells #[.int .i64 (besV l.ps P 0), .int .i64 (besV l.ps P 1), .int .i64 (besV l.ps P 2), .int .i64 (besV l.ps P 3)] 187) := ⟨_, rfl⟩
                  rw [← hY] at RR ⊢
                  clear hY
                  obtain ⟨L3, hL⟩ : ∃ L, L = Y1.heap.size := ⟨_, rfl⟩
                  rw [← hL] at RR ⊢
                  clear hL
                  refine hK.out _ _ (fun _ _ => RR.S) (fun hHeld => ?_)
                  clear hK K
                  try simp only [Act.put, List.setIfInBounds_toArray, List.set_cons_zero, List.set_cons_succ]
                  refine wpAnyT_ready (rs := [8]) (by kernel_rfl) (by simp) ?_
                  (refine' AllReadyT.cons (o := ?o69) ?ho69 (fun K hK => ?step69) AllReadyT.nil; (case ho69 => simp only [List.getElem?_toArray, List.getElem?_cons_zero, List.getElem?_cons_succ]; rfl))
                  go_simp
                  have RR := RR.lit #[.int .u8 cv] 185
                  obtain ⟨Y3, hY⟩ : ∃ Y, Y = Y2.alloc (.cells #[.int .u8 cv] 185) := ⟨_, rfl⟩
                  rw [← hY] at RR ⊢
                  clear hY
                  obtain ⟨L1, hL⟩ : ∃ L, L = Y2.heap.size := ⟨_, rfl⟩
                  rw [← hL] at RR ⊢
                  clear hL
                  refine hK.out _ _ (fun _ _ => RR.S) (fun hHeld => ?_)
                  clear hK K
                  try simp only [Act.put, List.setIfInBounds_toArray, List.set_cons_zero, List.set_cons_succ]
                  refine wpAnyT_ready (rs := [9]) (by kernel_rfl) (by simp) ?_
                  (refine' AllReadyT.cons (o := ?o70) ?ho70 (fun K hK => ?step70) AllReadyT.nil; (case ho70 => simp only [List.getElem?_toArray, List.getElem?_cons_zero, List.getElem?_cons_succ]; rfl))
                  refine step_append_lies _ (by rfl) _ _ _ (by rfl) (w.heap.size + 2) 185 i1 _ 1 1 Tryz.underlying179 hi1 hiz1 hix1 hiy1 rfl (by omega) v1 k (flat canC (l.ps.take k)) (by rfl) RR.r1 ⟨L1, 0, none⟩ 1 1 (Array.toList #[.int .u8 cv]) (by rfl) (by rfl) (World.news_of_block (RR.lits (L1, #[.int .u8 cv], 185) (by simp)).2) HONE.out (by omega) (by unfold maxLen; omega) (by omega) (by have : b8 + 1 + 1 < Y3.heap.size := (RR.o11.lt _ rfl).2; omega) _ rfl ?_
                  intro g1 cap1 Y4 hown hgrow hat hlt1
                  have RR := RR.app1 hl1 hown hgrow hat
                  clear hown hgrow hat
                  refine hK.out _ _ (fun _ _ => RR.S) (fun hHeld => ?_)
                  clear hK K
                  try simp only [Act.put, List.setIfInBounds_toArray, List.set_cons_zero, List.set_cons_succ]
                  refine wpAnyT_ready (rs := [16]) (by kernel_rfl) (by simp) ?_
                  (refine' AllReadyT.cons (o := ?o71) ?ho71 (fun K hK => ?step71) AllReadyT.nil; (case ho71 => simp only [List.getElem?_toArray, List.getElem?_cons_zero, List.getElem?_cons_succ]; rfl))
                  refine step_append_lies _ (by rfl) _ _ _ (by rfl) (w.heap.size + 2) 186 i2 _ 4 4 Tryz.underlying180 hi2 hiz2 hix2 hiy2 rfl (by omega) v2 k (flat hitC (l.ps.take k)) (by rfl) RR.r2 ⟨L2, 0, none⟩ 1 1 (Array.toList #[.int .u8 (hv0 P 0), .int .u8 (hv0 P 1), .int .u8 (hv0 P 2), .int .u8 (hv0 P 3)]) (by rfl) (by rfl) (World.news_of_block (RR.lits (L2, #[.int .u8 (hv0 P 0), .int .u8 (hv0 P 1), .int .u8 (hv0 P 2), .int .u8 (hv0 P 3)], 186) (by simp)).2) (hitC_one P) (by omega) (by unfold maxLen; omega) (by omega) (by have : b8 + 1 + 1 < Y4.heap.size := (RR.o11.lt _ rfl).2; omega) _ rfl ?_
                  intro g2 cap2 Y5 hown hgrow hat hlt2
                  have RR := RR.app2 hl2 hown hgrow hat
                  clear hown hgrow hat
                  refine hK.out _ _ (fun _ _ => RR.S) (fun hHeld => ?_)
                  clear hK K
                  try simp only [Act.put, List.setIfInBounds_toArray, List.set_cons_zero, List.set_cons_succ]
                  refine wpAnyT_ready (rs := [23]) (by kernel_rfl) (by simp) ?_
                  (refine' AllReadyT.cons (o := ?o72) ?ho72 (fun K hK => ?step72) AllReadyT.nil; (case ho72 => simp only [List.getElem?_toArray, List.getElem?_cons_zero, List.getElem?_cons_succ]; rfl))
                  refine step_append_lies _ (by rfl) _ _ _ (by rfl) (w.heap.size + 2) 187 i3 _ 4 32 Tryz.underlying181 hi3 hiz3 hix3 hiy3 rfl (by omega) v3 k (flat (besC l.ps) (l.ps.take k)) (by rfl) RR.r3 ⟨L3, 0, none⟩ 1 1 (Array.toList #[.int .i64 (besV l.ps P 0), .int .i64 (besV l.ps P 1), .int .i64 (besV l.ps P 2), .int .i64 (besV l.ps P 3)]) (by rfl) (by rfl) (World.news_of_block (RR.lits (L3, #[.int .i64 (besV l.ps P 0), .int .i64 (besV l.ps P 1), .int .i64 (besV l.ps P 2), .int .i64 (besV l.ps P 3)], 187) (by simp)).2) (besC_one l.ps P) (by omega) (by unfold maxLen; omega) (by omega) (by have : b8 + 1 + 1 < Y5.heap.size := (RR.o11.lt _ rfl).2; omega) _ rfl ?_
                  intro g3 cap3 Y6 hown hgrow hat hlt3
                  have RR := RR.app3 hl3 hown hgrow hat
                  clear hown hgrow hat
                  refine hK.out _ _ (fun _ _ => RR.S) (fun hHeld => ?_)
                  clear hK K
                  try simp only [Act.put, List.setIfInBounds_toArray, List.set_cons_zero, List.set_cons_succ]
                  exact TAIL L1 L2 L3 g1 cap1 g2 cap2 g3 cap3 Y6 RR.forget
                (refine' AllReadyT.cons (o := ?o73) ?ho73 (fun K hK => ?step73) AllReadyT.nil; (case ho73 => simp only [List.getElem?_toArray, List.getElem?_cons_zero, List.getElem?_cons_succ]; rfl))
                go_simp
                have RR := RR.lit #[.int .i64 (besV l.ps P 0), .int .i64 (besV l.ps P 1), .int .i64 (besV l.ps P 2), .int .i64 (besV l.ps P 3)] 187
                obtain ⟨Y1, hY⟩ : ∃ Y, Y = Y0.alloc (.cells #[.int .i64 (besV l.ps P 0), .int .i64 (besV l.ps P 1), .int .i64 (besV l.ps P 2), .int .i64 (besV l.ps P 3)] 187) := ⟨_, rfl⟩
                rw [← hY] at RR ⊢
                clear hY
                obtain ⟨L3, hL⟩ : ∃ L, L = Y0.heap.size := ⟨_, rfl⟩
                rw [← hL] at RR ⊢
                clear hL
                refine hK.out _ _ (fun _ _ => RR.S) (fun hHeld => ?_)
                clear hK K
                try simp only [Act.put, List.setIfInBounds_toArray, List.set_cons_zero, List.set_cons_succ]
                refine wpAnyT_ready (rs := [8, 15]) (by kernel_rfl) (by simp) ?_
                (refine' AllReadyT.cons (o := ?o31) ?ho31 (fun K hK => ?step31) ?more31; (case ho31 => simp only [List.getElem?_toArray, List.getElem?_cons_zero, List.getElem?_cons_succ]; rfl))
                · go_simp
                  have RR := RR.lit #[.int .u8 cv] 185
                  obtain ⟨Y2, hY⟩ : ∃ Y, Y = Y1.alloc (.cells #[.int .u8 cv] 185) := ⟨_, rfl⟩
                  rw [← hY] at RR ⊢
                  clear hY
                  obtain ⟨L1, hL⟩ : ∃ L, L = Y1.heap.size := ⟨_, rfl⟩
                  rw [← hL] at RR ⊢
                  clear hL
                  refine hK.out _ _ (fun _ _ => RR.S) (fun hHeld => ?_)
                  clear hK K
                  try simp only [Act.put, List.setIfInBounds_toArray, List.set_cons_zero, List.set_cons_succ]
                  refine wpAnyT_ready (rs := [9, 15]) (by kernel_rfl) (by simp) ?_
                  (refine' AllReadyT.cons (o := ?o32) ?ho32 (fun K hK => ?step32) ?more32; (case ho32 => simp only [List.getElem?_toArray, List.getElem?_cons_zero, List.getElem?_cons_succ]; rfl))
                  · refine step_append_lies _ (by rfl) _ _ _ (by rfl) (w.heap.size + 2) 185 i1 _ 1 1 Tryz.underlying179 hi1 hiz1 hix1 hiy1 rfl (by omega) v1 k (flat canC (l.ps.take k)) (by rfl) RR.r1 ⟨L1, 0, none⟩ 1 1 (Array.toList #[.int .u8 cv]) (by rfl) (by rfl) (World.news_of_block (RR.lits (L1, #[.int .u8 cv], 185) (by simp)).2) HONE.out (by omega) (by unfold maxLen; omega) (by omega) (by have : b8 + 1 + 1 < Y2.heap.size := (RR.o11.lt _ rfl).2; omega) _ rfl ?_
                    intro g1 cap1 Y3 hown hgrow hat hlt1
                    have RR := RR.app1 hl1 hown hgrow hat
                    clear hown hgrow hat
                    refine hK.out _ _ (fun _ _ => RR.S) (fun hHeld => ?_)
                    clear hK K
                    try simp only [Act.put, List.setIfInBounds_toArray, List.set_cons_zero, List.set_cons_succ]
                    refine wpAnyT_ready (rs := [15]) (by kernel_rfl) (by simp) ?_
                    (refine' AllReadyT.cons (o := ?o74) ?ho74 (fun K hK => ?step74) AllReadyT.nil; (case ho74 => simp only [List.getElem?_toArray, List.getElem?_cons_zero, List.getElem?_cons_succ]; rfl))
                    go_simp
                    have RR := RR.lit #[.int .u8 (hv0 P 0), .int .u8 (hv0 P 1), .int .u8 (hv0 P 2), .int .u8 (hv0 P 3)] 186
                    obtain ⟨Y4, hY⟩ : ∃ Y, Y = Y3.alloc (.cells #[.int .u8 (hv0 P 0), .int .u8 (hv0 P 1), .int .u8 (hv0 P 2), .int .u8 (hv0 P 3)] 186) := ⟨_, rfl⟩
                    rw [← hY] at RR ⊢
                    clear hY
                    obtain ⟨L2, hL⟩ : ∃ L, L = Y3.heap.size := ⟨_, rfl⟩
                    rw [← hL] at RR ⊢
                    clear hL
                    refine hK.out _ _ (fun _ _ => RR.S) (fun hHeld => ?_)
                    clear hK K
                    try simp only [Act.put, List.setIfInBounds_toArray, List.set_cons_zero, List.set_cons_succ]
                    refine wpAnyT_ready (rs := [16]) (by kernel_rfl) (by simp) ?_
                    (refine' AllReadyT.cons (o := ?o75) ?ho75 (fun K hK => ?step75) AllReadyT.nil; (case ho75 => simp only [List.getElem?_toArray, List.getElem?_cons_zero, List.getElem?_cons_succ]; rfl))
                    refine step_append_lies _ (by rfl) _ _ _ (by rfl) (w.heap.size + 2) 186 i2 _ 4 4 Tryz.underlying180 hi2 hiz2 hix2 hiy2 rfl (by omega) v2 k (flat hitC (l.ps.take k)) (by rfl) RR.r2 ⟨L2, 0, none⟩ 1 1 (Array.toList #[.int .u8 (hv0 P 0), .int .u8 (hv0 P 1), .int .u8 (hv0 P 2), .int .u8 (hv0 P 3)]) (by rfl) (by rfl) (World.news_of_block (RR.lits (L2, #[.int .u8 (hv0 P 0), .int .u8 (hv0 P 1), .int .u8 (hv0 P 2), .int .u8 (hv0 P 3)], 186) (by simp)).2) (hitC_one P) (by omega) (by unfold maxLen; omega) (by omega) (by have : b8 + 1 + 1 < Y4.heap.size := (RR.o11.lt _ rfl).2; omega) _ rfl ?_
                    intro g2 cap2 Y5 hown hgrow hat hlt2
                    have RR := RR.app2 hl2 hown hgrow hat
                    clear hown hgrow hat
                    refine hK.out _ _ (fun _ _ => RR.S) (fun hHeld => ?_)
                    clear hK K
                    try simp only [Act.put, List.setIfInBounds_toArray, List.set_cons_zero, List.set_cons_succ]
                    refine wpAnyT_ready (rs := [23]) (by kernel_rfl) (by simp) ?_
                    (refine' AllReadyT.cons (o := ?o76) ?ho76 (fun K hK => ?step76) AllReadyT.nil; (case ho76 => simp only [List.getElem?_toArray, List.getElem?_cons_zero, List.getElem?_cons_succ]; rfl))
                    refine step_append_lies _ (by rfl) _ _ _ (by rfl) (w.heap.size + 2) 187 i3 _ 4 32 Tryz.underlying181 hi3 hiz3 hix3 hiy3 rfl (by omega) v3 k (flat (besC l.ps) (l.ps.take k)) (by rfl) RR.r3 ⟨L3, 0, none⟩ 1 1 (Array.toList #[.int .i64 (besV l.ps P 0), .int .i64 (besV l.ps P 1), .int .i64 (besV l.ps P 2), .int .i64 (besV l.ps P 3)]) (by rfl) (by rfl) (World.news_of_block (RR.lits (L3, #[.int .i64 (besV l.ps P 0), .int .i64 (besV l.ps P 1), .int .i64 (besV l.ps P 2), .int .i64 (besV l.ps P 3)], 187) (by simp)).2) (besC_one l.ps P) (by omega) (by unfold maxLen; omega) (by omega) (by have : b8 + 1 + 1 < Y5.heap.size := (RR.o11.lt _ rfl).2; omega) _ rfl ?_
                    intro g3 cap3 Y6 hown hgrow hat hlt3
                    have RR := RR.app3 hl3 hown hgrow hat
                    clear hown hgrow hat
                    refine hK.out _ _ (fun _ _ => RR.S) (fun hHeld => ?_)
                    clear hK K
                    try simp only [Act.put, List.setIfInBounds_toArray, List.set_cons_zero, List.set_cons_succ]
                    exact TAIL L1 L2 L3 g1 cap1 g2 cap2 g3 cap3 Y6 RR.forget
                  (refine' AllReadyT.cons (o := ?o77) ?ho77 (fun K hK => ?step77) AllReadyT.nil; (case ho77 => simp only [List.getElem?_toArray, List.getElem?_cons_zero, List.getElem?_cons_succ]; rfl))
                  go_simp
                  have RR := RR.lit #[.int .u8 (hv0 P 0), .int .u8 (hv0 P 1), .int .u8 (hv0 P 2), .int .u8 (hv0 P 3)] 186
                  obtain ⟨Y3, hY⟩ : ∃ Y, Y = Y2.alloc (.cells #[.int .u8 (hv0 P 0), .int .u8 (hv0 P 1), .int .u8 (hv0 P 2), .int .u8 (hv0 P 3)] 186) := ⟨_, rfl⟩
                  rw [← hY] at RR ⊢
                  clear hY
                  obtain ⟨L2, hL⟩ : ∃ L, L = Y2.heap.size := ⟨_, rfl⟩
                  rw [← hL] at RR ⊢
                  clear hL
                  refine hK.out _ _ (fun _ _ => RR.S) (fun hHeld => ?_)
                  clear hK K
                  try simp only [Act.put, List.setIfInBounds_toArray, List.set_cons_zero, List.set_cons_succ]
                  refine wpAnyT_ready (rs := [9]) (by kernel_rfl) (by simp) ?_
                  (refine' AllReadyT.cons (o := ?o78) ?ho78 (fun K hK => ?step78) AllReadyT.nil; (case ho78 => simp only [List.getElem?_toArray, List.getElem?_cons_zero, List.getElem?_cons_succ]; rfl))
                  refine step_append_lies _ (by rfl) _ _ _ (by rfl) (w.heap.size + 2) 185 i1 _ 1 1 Tryz.underlying179 hi1 hiz1 hix1 hiy1 rfl (by omega) v1 k (flat canC (l.ps.take k)) (by rfl) RR.r1 ⟨L1, 0, none⟩ 1 1 (Array.toList #[.int .u8 cv]) (by rfl) (by rfl) (World.news_of_block (RR.lits (L1, #[.int .u8 cv], 185) (by simp)).2) HONE.out (by omega) (by unfold maxLen; omega) (by omega) (by have : b8 + 1 + 1 < Y3.heap.size := (RR.o11.lt _ rfl).2; omega) _ rfl ?_
                  intro g1 cap1 Y4 hown hgrow hat hlt1
                  have RR := RR.app1 hl1 hown hgrow hat
                  clear hown hgrow hat
                  refine hK.out _ _ (fun _ _ => RR.S) (fun hHeld => ?_)
                  clear hK K
                  try simp only [Act.put, List.setIfInBounds_toArray, List.set_cons_zero, List.set_cons_succ]
                  refine wpAnyT_ready (rs := [16]) (by kernel_rfl) (by simp) ?_
                  (refine' AllReadyT.cons (o := ?o79) ?ho79 (fun K hK => ?step79) AllReadyT.nil; (case ho79 => simp only [List.getElem?_toArray, List.getElem?_cons_zero, List.getElem?_cons_succ]; rfl))
                  refine step_append_lies _ (by rfl) _ _ _ (by rfl) (w.heap.size + 2) 186 i2 _ 4 4 Tryz.underlying180 hi2 hiz2 hix2 hiy2 rfl (by omega) v2 k (flat hitC (l.ps.take k)) (by rfl) RR.r2 ⟨L2, 0, none⟩ 1 1 (Array.toList #[.int .u8 (hv0 P 0), .int .u8 (hv0 P 1), .int .u8 (hv0 P 2), .int .u8 (hv0 P 3)]) (by rfl) (by rfl) (World.news_of_block (RR.lits (L2, #[.int .u8 (hv0 P 0), .int .u8 (hv0 P 1), .int .u8 (hv0 P 2), .int .u8 (hv0 P 3)], 186) (by simp)).2) (hitC_one P) (by omega) (by unfold maxLen; omega) (by omega) (by have : b8 + 1 + 1 < Y4.heap.size := (RR.o11.lt _ rfl).2; omega) _ rfl ?_
                  intro g2 cap2 Y5 hown hgrow hat hlt2
                  have RR := RR.app2 hl2 hown hgrow hat
                  clear hown hgrow hat
                  refine hK.out _ _ (fun _ _ => RR.S) (fun hHeld => ?_)
                  clear hK K
                  try simp only [Act.put, List.setIfInBounds_toArray, List.set_cons_zero, List.set_cons_succ]
                  refine wpAnyT_ready (rs := [23]) (by kernel_rfl) (by simp) ?_
                  (refine' AllReadyT.cons (o := ?o80) ?ho80 (fun K hK => ?step80) AllReadyT.nil; (case ho80 => simp only [List.getElem?_toArray, List.getElem?_cons_zero, List.getElem?_cons_succ]; rfl))
                  refine step_append_lies _ (by rfl) _ _ _ (by rfl) (w.heap.size + 2) 187 i3 _ 4 32 Tryz.underlying181 hi3 hiz3 hix3 hiy3 rfl (by omega) v3 k (flat (besC l.ps) (l.ps.take k)) (by rfl) RR.r3 ⟨L3, 0, none⟩ 1 1 (Array.toList #[.int .i64 (besV l.ps P 0), .int .i64 (besV l.ps P 1), .int .i64 (besV l.ps P 2), .int .i64 (besV l.ps P 3)]) (by rfl) (by rfl) (World.news_of_block (RR.lits (L3, #[.int .i64 (besV l.ps P 0), .int .i64 (besV l.ps P 1), .int .i64 (besV l.ps P 2), .int .i64 (besV l.ps P 3)], 187) (by simp)).2) (besC_one l.ps P) (by omega) (by unfold maxLen; omega) (by omega) (by have : b8 + 1 + 1 < Y5.heap.size := (RR.o11.lt _ rfl).2; omega) _ rfl ?_
                  intro g3 cap3 Y6 hown hgrow hat hlt3
                  have RR := RR.app3 hl3 hown hgrow hat
                  clear hown hgrow hat
                  refine hK.out _ _ (fun _ _ => RR.S) (fun hHeld => ?_)
                  clear hK K
                  try simp only [Act.put, List.setIfInBounds_toArray, List.set_cons_zero, List.set_cons_succ]
                  exact TAIL L1 L2 L3 g1 cap1 g2 cap2 g3 cap3 Y6 RR.forget
                (refine' AllReadyT.cons (o := ?o81) ?ho81 (fun K hK => ?step81) AllReadyT.nil; (case ho81 => simp only [List.getElem?_toArray, List.getElem?_cons_zero, List.getElem?_cons_succ]; rfl))
                go_simp
                have RR := RR.lit #[.int .u8 (hv0 P 0), .int .u8 (hv0 P 1), .int .u8 (hv0 P 2), .int .u8 (hv0 P 3)] 186
                obtain ⟨Y2, hY⟩ : ∃ Y, Y = Y1.alloc (.cells #[.int .u8 (hv0 P 0), .int .u8 (hv0 P 1), .int .u8 (hv0 P 2), .int .u8 (hv0 P 3)] 186) := ⟨_, rfl⟩
                rw [← hY] at RR ⊢
                clear hY
                obtain ⟨L2, hL⟩ : ∃ L, L = Y1.heap.size := ⟨_, rfl⟩
                rw [← hL] at RR ⊢
                clear hL
                refine hK.out _ _ (fun _ _ => RR.S) (fun hHeld => ?_)
                clear hK K
                try simp only [Act.put, List.setIfInBounds_toArray, List.set_cons_zero, List.set_cons_succ]
                refine wpAnyT_ready (rs := [8]) (by kernel_rfl) (by simp) ?_
                (refine' AllReadyT.cons (o := ?o82) ?ho82 (fun K hK => ?step82) AllReadyT.nil; (case ho82 => simp only [List.getElem?_toArray, List.getElem?_cons_zero, List.getElem?_cons_succ]; rfl))
                go_simp
                have RR := RR.lit #[.int .u8 cv] 185
                obtain ⟨Y3, hY⟩ : ∃ Y, Y = Y2.alloc (.cells #[.int .u8 cv] 185) := ⟨_, rfl⟩
                rw [← hY] at RR ⊢
                clear hY
                obtain ⟨L1, hL⟩ : ∃ L, L = Y2.heap.size := ⟨_, rfl⟩
                rw [← hL] at RR ⊢
                clear hL
                refine hK.out _ _ (fun _ _ => RR.S) (fun hHeld => ?_)
                clear hK K
                try simp only [Act.put, List.setIfInBounds_toArray, List.set_cons_zero, List.set_cons_succ]
                refine wpAnyT_ready (rs := [9]) (by kernel_rfl) (by simp) ?_
                (refine' AllReadyT.cons (o := ?o83) ?ho83 (fun K hK => ?step83) AllReadyT.nil; (case ho83 => simp only [List.getElem?_toArray, List.getElem?_cons_zero, List.getElem?_cons_succ]; rfl))
                refine step_append_lies _ (by rfl) _ _ _ (by rfl) (w.heap.size + 2) 185 i1 _ 1 1 Tryz.underlying179 hi1 hiz1 hix1 hiy1 rfl (by omega) v1 k (flat canC (l.ps.take k)) (by rfl) RR.r1 ⟨L1, 0, none⟩ 1 1 (Array.toList #[.int .u8 cv]) (by rfl) (by rfl) (World.news_of_block (RR.lits (L1, #[.int .u8 cv], 185) (by simp)).2) HONE.out (by omega) (by unfold maxLen; omega) (by omega) (by have : b8 + 1 + 1 < Y3.heap.size := (RR.o11.lt _ rfl).2; omega) _ rfl ?_
                intro g1 cap1 Y4 hown hgrow hat hlt1
                have RR := RR.app1 hl1 hown hgrow hat
                clear hown hgrow hat
                refine hK.out _ _ (fun _ _ => RR.S) (fun hHeld => ?_)
                clear hK K
                try simp only [Act.put, List.setIfInBounds_toArray, List.set_cons_zero, List.set_cons_succ]
                refine wpAnyT_ready (rs := [16]) (by kernel_rfl) (by simp) ?_
                (refine' AllReadyT.cons (o := ?o84) ?ho84 (fun K hK => ?step84) AllReadyT.nil; (case ho84 => simp only [List.getElem?_toArray, List.getElem?_cons_zero, List.getElem?_cons_succ]; rfl))
                refine step_append_lies _ (by rfl) _ _ _ (by rfl) (w.heap.size + 2) 186 i2 _ 4 4 Tryz.underlying180 hi2 hiz2 hix2 hiy2 rfl (by omega) v2 k (flat hitC (l.ps.take k)) (by rfl) RR.r2 ⟨L2, 0, none⟩ 1 1 (Array.toList #[.int .u8 (hv0 P 0), .int .u8 (hv0 P 1), .int .u8 (hv0 P 2), .int .u8 (hv0 P 3)]) (by rfl) (by rfl) (World.news_of_block (RR.lits (L2, #[.int .u8 (hv0 P 0), .int .u8 (hv0 P 1), .int .u8 (hv0 P 2), .int .u8 (hv0 P 3)], 186) (by simp)).2) (hitC_one P) (by omega) (by unfold maxLen; omega) (by omega) (by have : b8 + 1 + 1 < Y4.heap.size := (RR.o11.lt _ rfl).2; omega) _ rfl ?_
                intro g2 cap2 Y5 hown hgrow hat hlt2
                have RR := RR.app2 hl2 hown hgrow hat
                clear hown hgrow hat
                refine hK.out _ _ (fun _ _ => RR.S) (fun hHeld => ?_)
                clear hK K
                try simp only [Act.put, List.setIfInBounds_toArray, List.set_cons_zero, List.set_cons_succ]
                refine wpAnyT_ready (rs := [23]) (by kernel_rfl) (by simp) ?_
                (refine' AllReadyT.cons (o := ?o85) ?ho85 (fun K hK => ?step85) AllReadyT.nil; (case ho85 => simp only [List.getElem?_toArray, List.getElem?_cons_zero, List.getElem?_cons_succ]; rfl))
                refine step_append_lies _ (by rfl) _ _ _ (by rfl) (w.heap.size + 2) 187 i3 _ 4 32 Tryz.underlying181 hi3 hiz3 hix3 hiy3 rfl (by omega) v3 k (flat (besC l.ps) (l.ps.take k)) (by rfl) RR.r3 ⟨L3, 0, none⟩ 1 1 (Array.toList #[.int .i64 (besV l.ps P 0), .int .i64 (besV l.ps P 1), .int .i64 (besV l.ps P 2), .int .i64 (besV l.ps P 3)]) (by rfl) (by rfl) (World.news_of_block (RR.lits (L3, #[.int .i64 (besV l.ps P 0), .int .i64 (besV l.ps P 1), .int .i64 (besV l.ps P 2), .int .i64 (besV l.ps P 3)], 187) (by simp)).2) (besC_one l.ps P) (by omega) (by unfold maxLen; omega) (by omega) (by have : b8 + 1 + 1 < Y5.heap.size := (RR.o11.lt _ rfl).2; omega) _ rfl ?_
                intro g3 cap3 Y6 hown hgrow hat hlt3
                have RR := RR.app3 hl3 hown hgrow hat
                clear hown hgrow hat
                refine hK.out _ _ (fun _ _ => RR.S) (fun hHeld => ?_)
                clear hK K
                try simp only [Act.put, List.setIfInBounds_toArray, List.set_cons_zero, List.set_cons_succ]
                exact TAIL L1 L2 L3 g1 cap1 g2 cap2 g3 cap3 Y6 RR.forget
              case tailQ =>
                intro L1 L2 L3 g1 cap1 g2 cap2 g3 cap3 Y RR
                try simp only [Act.put, List.setIfInBounds_toArray, List.set_cons_zero, List.set_cons_succ]
                have st := RR.st
                have hst1 : Y.ownsRow w.heap.size 183 4 (.slice (some ⟨w.heap.size, 0, none⟩) 1 1) 1 [.slice (some ⟨b', off, none⟩) l.ps.length scap, v1, v2, v3] := st
                clear st
                obtain ⟨⟨z1, s1⟩, t1⟩ := own_cell hst1 (j := 1) (by omega)
                obtain ⟨⟨z2, s2⟩, t2⟩ := own_cell hst1 (j := 2) (by omega)
                obtain ⟨⟨z3, s3⟩, t3⟩ := own_cell hst1 (j := 3) (by omega)
                refine wpAnyT_ready (rs := [24]) (by kernel_rfl) (by simp) ?_
                (refine' AllReadyT.cons (o := ?o86) ?ho86 (fun K hK => ?step86) AllReadyT.nil; (case ho86 => simp only [List.getElem?_toArray, List.getElem?_cons_zero, List.getElem?_cons_succ]; rfl))
                go_simp
                refine hK.out _ _ (fun _ h => absurd h (by decide)) (fun _ => ?_)
                clear hK K
                try simp only [Act.put, List.setIfInBounds_toArray, List.set_cons_zero, List.set_cons_succ]
                refine wpAnyT_ready (rs := [25]) (by kernel_rfl) (by simp) ?_
                (refine' AllReadyT.cons (o := ?o87) ?ho87 (fun K hK => ?step87) AllReadyT.nil; (case ho87 => simp only [List.getElem?_toArray, List.getElem?_cons_zero, List.getElem?_cons_succ]; rfl))
                go_simp
                refine hK.out _ _ (fun _ h => absurd h (by decide)) (fun _ => ?_)
                clear hK K
                try simp only [Act.put, List.setIfInBounds_toArray, List.set_cons_zero, List.set_cons_succ]
                refine wpAnyT_ready (rs := [26]) (by kernel_rfl) (by simp) ?_
                (refine' AllReadyT.cons (o := ?o88) ?ho88 (fun K hK => ?step88) AllReadyT.nil; (case ho88 => simp only [List.getElem?_toArray, List.getElem?_cons_zero, List.getElem?_cons_succ]; rfl))
                go_simp
                refine hK.out _ _ (fun _ h => absurd h (by decide)) (fun _ => ?_)
                clear hK K
                try simp only [Act.put, List.setIfInBounds_toArray, List.set_cons_zero, List.set_cons_succ]
                refine wpAnyT_ready (rs := [27]) (by kernel_rfl) (by simp) ?_
                (refine' AllReadyT.cons (o := ?o89) ?ho89 (fun K hK => ?step89) AllReadyT.nil; (case ho89 => simp only [List.getElem?_toArray, List.getElem?_cons_zero, List.getElem?_cons_succ]; rfl))
                go_simp
                refine hK.out _ _ (fun _ h => absurd h (by decide)) (fun _ => ?_)
                clear hK K
                try simp only [Act.put, List.setIfInBounds_toArray, List.set_cons_zero, List.set_cons_succ]
                refine wpAnyT_ready (rs := [28]) (by kernel_rfl) (by simp) ?_
                (refine' AllReadyT.cons (o := ?o90) ?ho90 (fun K hK => ?step90) AllReadyT.nil; (case ho90 => simp only [List.getElem?_toArray, List.getElem?_cons_zero, List.getElem?_cons_succ]; rfl))
                go_simp
                refine hK.out _ _ (fun _ h => absurd h (by decide)) (fun _ => ?_)
                clear hK K
                try simp only [Act.put, List.setIfInBounds_toArray, List.set_cons_zero, List.set_cons_succ]
                refine wpAnyT_ready (rs := [29]) (by kernel_rfl) (by simp) ?_
                (refine' AllReadyT.cons (o := ?o91) ?ho91 (fun K hK => ?step91) AllReadyT.nil; (case ho91 => simp only [List.getElem?_toArray, List.getElem?_cons_zero, List.getElem?_cons_succ]; rfl))
                go_simp
                refine hK.out _ _ (fun _ h => absurd h (by decide)) (fun _ => ?_)
                clear hK K
                try simp only [Act.put, List.setIfInBounds_toArray, List.set_cons_zero, List.set_cons_succ]
                refine wpAnyT_ready (rs := [30]) (by kernel_rfl) (by simp) ?_
                (refine' AllReadyT.cons (o := ?o92) ?ho92 (fun K hK => ?step92) AllReadyT.nil; (case ho92 => simp only [List.getElem?_toArray, List.getElem?_cons_zero, List.getElem?_cons_succ]; rfl))
                go_simp
                refine hK.out _ _ (fun _ h => absurd h (by decide)) (fun _ => ?_)
                clear hK K
                try simp only [Act.put, List.setIfInBounds_toArray, List.set_cons_zero, List.set_cons_succ]
                refine wpAnyT_ready (rs := [31]) (by kernel_rfl) (by simp) ?_
                (refine' AllReadyT.cons (o := ?o93) ?ho93 (fun K hK => ?step93) AllReadyT.nil; (case ho93 => simp only [List.getElem?_toArray, List.getElem?_cons_zero, List.getElem?_cons_succ]; rfl))
                go_simp
                refine hK.out _ _ (fun _ h => absurd h (by decide)) (fun _ => ?_)
                clear hK K
                try simp only [Act.put, List.setIfInBounds_toArray, List.set_cons_zero, List.set_cons_succ]
                refine wpAnyT_ready (rs := [32]) (by kernel_rfl) (by simp) ?_
                (refine' AllReadyT.cons (o := ?o94) ?ho94 (fun K hK => ?step94) AllReadyT.nil; (case ho94 => simp only [List.getElem?_toArray, List.getElem?_cons_zero, List.getElem?_cons_succ]; rfl))
                go_simp
                refine hK.out _ _ (fun _ h => absurd h (by decide)) (fun _ => ?_)
                clear hK K
                try simp only [Act.put, List.setIfInBounds_toArray, List.set_cons_zero, List.set_cons_succ]
                refine wpAnyT_done (by kernel_rfl) ?_ _
                clear s1 t1 s2 t2 s3 t3 hst1
                obtain ⟨u1, u2, u3, u4, u5', u6', u7', u8', u9'⟩ := RR.done
                have htk : l.ps.take (k + 1) = l.ps.take k ++ [P] := by rw [HP.out]; exact List.take_succ_eq_append_getElem hlt
                have U1 := Lib.hid u1
                have U2 := Lib.hid u2
                have U3 := Lib.hid u3
                have U4 := Lib.hid u4
                clear u1 u2 u3 u4 RR
                have U5 := Lib.hid u5'
                have U6 := Lib.hid u6'
                have U7 := Lib.hid u7'
                have U8 := Lib.hid u8'
                have U9 := Lib.hid u9'
                clear u5' u6' u7' u8' u9'
                go_wp2
                go_roundw
                case rel =>
                  refine ⟨k + 1, _, _, _, by omega, by go_num, U1.out, ?_, ?_, ?_, U5.out, U6.out, U7.out, U8.out, U9.out⟩
                  · rw [htk, flat_append]; have := U2.out; rw [HCV.out] at this; exact this
                  · rw [htk, flat_append]; exact U3.out
                  · rw [htk, flat_append]; exact U4.out
                case measure => simp [intOf]; omega
        · have hkn : k = l.ps.length := by omega
          subst hkn
          rw [List.take_length] at hr1 hr2 hr3
          go_wp2
          go_ret
          refine ⟨w.heap.size, rfl, Nat.le_refl _, ⟨⟨by omega, _, _, _, _, ⟨by rw [hst.cellAt _ (by omega)]; rfl, by rw [hst.cellAt _ (by omega)]; rfl, by rw [hst.cellAt _ (by omega)]; rfl, by rw [hst.cellAt _ (by omega)]; rfl⟩, ⟨sa, scap, rfl, (hps.below hb (Nat.le_refl _)).wide hb.size⟩, sv_own hr1, sv_own hr2, sv_own hr3⟩, fun q hq w2 hg => ?_⟩, hb⟩
          obtain ⟨hq, hpq⟩ := hq
          have hst := own_kept hst hg (by intro k hk e; have := (hst.lt k hk).1; cases e; omega)
          have hr1 := own_kept hr1 hg (by intro k hk e; have := (hr1.lt k hk).1; cases e; omega)
          have hr2 := own_kept hr2 hg (by intro k hk e; have := (hr2.lt k hk).1; cases e; omega)
          have hr3 := own_kept hr3 hg (by intro k hk e; have := (hr3.lt k hk).1; cases e; omega)
          exact ⟨(hst.lt _ rfl).2, _, _, _, _, ⟨by rw [hst.cellAt _ (by omega)]; rfl, by rw [hst.cellAt _ (by omega)]; rfl, by rw [hst.cellAt _ (by omega)]; rfl, by rw [hst.cellAt _ (by omega)]; rfl⟩, ⟨sa, scap, rfl, hpq sa scap HC2.out w2 (bl_gb hb hg)⟩, sv_own hr1, sv_own hr2, sv_own hr3⟩
end Go.Proofs.YtmeefmoblkiebaaGreat
/- Contracts: the fall that follows (the program). -/
namespace Go.Proofs.YtmeefmoblkiebaaGreat
open Go.RowKit
set_option linter.unusedVariables false
set_option linter.unusedSimpArgs false
set_option maxHeartbeats 400000
set_option maxRecDepth 100000
theorem stay_any (w : World) : Calls Tryz.prog 147 #[] w fun e w' => e = .returned (.agg #[.int .i64 (-1), .int .i8 0, .int .i64 (-1)]) ∧ Below w.heap.size w w' := by
  go_enter Tryz.func147, Tryz.ntmps147
  go_wp2
  first
    | (go_ret; exact ⟨rfl, (by repeat (first | with_reducible exact Below.refl _ _ | with_reducible assumption | with_reducible apply bl_drewN | with_reducible apply bl_drew | with_reducible apply bl_alloc | (with_reducible refine bl_set ?_ (by first | (simp; done) | (simp; omega)) _) | with_reducible refine bl_trans ?_ (by with_reducible assumption)))⟩)
    | (exact bodyPost_ret (v := .agg #[.int .i64 (-1), .int .i8 0, .int .i64 (-1)]) (by simp [results, Tryz.results147, go_sem]) rfl ⟨rfl, (by repeat (first | with_reducible exact Below.refl _ _ | with_reducible assumption | with_reducible apply bl_drewN | with_reducible apply bl_drew | with_reducible apply bl_alloc | (with_reducible refine bl_set ?_ (by first | (simp; done) | (simp; omega)) _) | with_reducible refine bl_trans ?_ (by with_reducible assumption)))⟩)
theorem stAt_pc {w : World} {g : Nat} {l : Bd} (h : StAt w g l) {i : Nat} (hi : i < l.ps.length) : ∃ b o c, w.cell? ⟨g, 0, none⟩ = some (.slice (some ⟨b, o, none⟩) l.ps.length c) ∧ b < w.heap.size ∧ PcAt w b (o + i * 5) l.ps[i] := by
  obtain ⟨h1, v0, v1, v2, v3, ⟨c0, c1, c2, c3⟩, ⟨a, cap, rfl, p0⟩, p1, p2, p3⟩ := h
  obtain ⟨b, o, rfl, hb, hat⟩ := pcs_get p0 hi
  exact ⟨b, o, cap, c0, hb, hat⟩
theorem stAt_can {w : World} {g : Nat} {l : Bd} (h : StAt w g l) {i : Nat} (hi : i < l.ps.length) : ∃ b o c, w.cell? ⟨g, 1, none⟩ = some (.slice (some ⟨b, o, none⟩) l.ps.length c) ∧ b < w.heap.size ∧ w.cell? ⟨b, o + i, none⟩ = some (.int .u8 (canV l.ps[i])) := by
  obtain ⟨h1, v0, v1, v2, v3, ⟨c0, c1, c2, c3⟩, p0, ⟨a, cap, rfl, p1⟩, p2, p3⟩ := h
  obtain ⟨b, o, rfl, hb, hat⟩ := SlAt.get canC_len (by omega) p1 hi
  refine ⟨b, o, cap, c1, hb, ?_⟩
  have := hat 0 _ rfl
  rwa [Nat.mul_one, Nat.add_zero] at this
theorem stAt_hit {w : World} {g : Nat} {l : Bd} (h : StAt w g l) {i : Nat} (hi : i < l.ps.length) : ∃ b o c, w.cell? ⟨g, 2, none⟩ = some (.slice (some ⟨b, o, none⟩) l.ps.length c) ∧ b < w.heap.size ∧ ∀ s : Nat, s < 4 → w.cell? ⟨b, o + i * 4 + s, none⟩ = some (.int .u8 (hv0 l.ps[i] s)) := by
  obtain ⟨h1, v0, v1, v2, v3, ⟨c0, c1, c2, c3⟩, p0, p1, ⟨a, cap, rfl, p2⟩, p3⟩ := h
  obtain ⟨b, o, rfl, hb, hat⟩ := SlAt.get hitC_len (by omega) p2 hi
  refine ⟨b, o, cap, c2, hb, fun s hs => hat s _ ?_⟩
  have : s = 0 ∨ s = 1 ∨ s = 2 ∨ s = 3 := by omega
  rcases this with rfl | rfl | rfl | rfl <;> rfl
theorem stAt_bes {w : World} {g : Nat} {l : Bd} (h : StAt w g l) {i : Nat} (hi : i < l.ps.length) : ∃ b o c, w.cell? ⟨g, 3, none⟩ = some (.slice (some ⟨b, o, none⟩) l.ps.length c) ∧ b < w.heap.size ∧ ∀ s : Nat, s < 4 → w.cell? ⟨b, o + i * 4 + s, none⟩ = some (.int .i64 (besV l.ps l.ps[i] s)) := by
  obtain ⟨h1, v0, v1, v2, v3, ⟨c0, c1, c2, c3⟩, p0, p1, p2, ⟨a, cap, rfl, p3⟩⟩ := h
  obtain ⟨b, o, rfl, hb, hat⟩ := SlAt.get (besC_len l.ps) (by omega) p3 hi
  refine ⟨b, o, cap, c3, hb, fun s hs => hat s _ ?_⟩
  have : s = 0 ∨ s = 1 ∨ s = 2 ∨ s = 3 := by omega
  rcases this with rfl | rfl | rfl | rfl <;> rfl
end Go.Proofs.YtmeefmoblkiebaaGreat
/- Contracts: the run of a board (the program). -/
namespace Go.Proofs.YtmeefmoblkiebaaGreat
open Go.RowKit
set_option linter.unusedVariables false
set_option linter.unusedSimpArgs false
set_option maxHeartbeats 400000
set_option maxRecDepth 100000
theorem own_hiAtN {w : World} {base e g n cap : Nat} {D : List Hi} (h : w.ownsRow base e 4 (.slice (some ⟨g, 0, none⟩) n cap) n (flat Hi.cells D)) (hl : D.length = n) (i : Nat) (hi : i < D.length) : HiAt w g (i * 4) D[i] := by
  have hg := fun c (hc : c < 4) => flat_get Hi.len D i c hi hc
  refine ⟨?_, ?_, ?_, ?_⟩
  · rw [h.cellAt _ (by omega)]; exact hg 0 (by omega)
  · rw [h.cellAt _ (by omega)]; exact hg 1 (by omega)
  · rw [h.cellAt _ (by omega)]; exact hg 2 (by omega)
  · rw [h.cellAt _ (by omega)]; exact hg 3 (by omega)
/-- How far the ticks still are. -/
def tkM (v : Value) : Nat := match v with | .int _ q => (20000 - q).toNat | _ => 30000
set_option maxHeartbeats 3200000 in
theorem run_any {B : Nat} (g : Nat) (l : Bd) (a : Option Addr) (cap : Nat) (pl : List Pu) (w : World) (hst : StAt w g l) (hv : vBd l = true) (h : SlAt B w a (flat Hi.cells (pl.map (hitOf l)))) (hpl : pl.all plainPu = true) (hin : pl.all (fun p => decide (0 ≤ fnd ⟨p.x, p.y⟩ l.ps)) = true) (hn : pl.length ≤ 20) (hB : B ≤ w.heap.size) :
    Calls Tryz.prog 99 #[.pointer (some ⟨g, 0, none⟩), .slice a pl.length cap] w fun e w' => ∃ v fs, e = .returned v ∧ w'.ownsRow w.heap.size 43 3 v fs.length (flat Fa.cells fs) ∧ okFa l.ps pl fs ∧ Below w.heap.size w w' := by
  obtain ⟨-, -, -, -, c5⟩ := vBd_bounds l hv
  have HG := Lib.hid (good_bd l hv pl hpl)
  have HPL := Lib.hid hpl
  have HIN := Lib.hid hin
  clear hpl hin
  have HST := Lib.hid hst
  have hgl := hst.1
  obtain ⟨-, v0, v1, v2, v3, ⟨s0, -, -, -⟩, ⟨pa, pcap, rfl, -⟩, -, -, -⟩ := hst
  have HREP := Lib.hid (fun (w' : World) (vb : Nat) hvb => repeat_any w' vb l.ps.length (by omega) hvb)
  have hmm := @run_makeMap Tryz.prog
  go_enter Tryz.func99, Tryz.ntmps99
  go_upto_region 1 with fail
  go_region_held3 (fun w' => w'.cell? ⟨g, 0, none⟩ = some (.slice pa l.ps.length pcap)) (go_keep) (first | (go_at_call 147; refine (stay_any _).mono ?_; rintro e wa ⟨rfl, ba⟩; have bwa : Below w.heap.size w wa := (by repeat (first | with_reducible exact Below.refl _ _ | with_reducible assumption | with_reducible apply bl_drewN | with_reducible apply bl_drew | with_reducible apply bl_alloc | (with_reducible refine bl_set ?_ (by first | (simp; done) | (simp; omega)) _) | with_reducible refine bl_trans ?_ (by with_reducible assumption))); obtain ⟨hca, hfa⟩ := bcell bwa) | (go_at_call 146; refine (HREP.out _ wa.heap.size (heap_alloc_new _ _)).mono ?_; rintro e wb ⟨gr, rfl, ownr, bb⟩; have bwb : Below w.heap.size w wb := (by repeat (first | with_reducible exact Below.refl _ _ | with_reducible assumption | with_reducible apply bl_drewN | with_reducible apply bl_drew | with_reducible apply bl_alloc | (with_reducible refine bl_set ?_ (by first | (simp; done) | (simp; omega)) _) | with_reducible refine bl_trans ?_ (by with_reducible assumption))); obtain ⟨hcb, hfb⟩ := bcell bwb))
  have own2 := own_mono ownr (show w.heap.size ≤ _ by have := bwa.size; simp; omega)
  clear ownr bb
  go_upto_region 5 with fail
  clear hmm
  have hgr1 := own2.lt gr rfl
  have hR0 := RX.start (B := w.heap.size) (K := [gr]) l.ps wb _ bwb.size rfl (fun k hk => by rw [List.mem_singleton] at hk; rw [hk]; exact hgr1.2)
  have own3 := own_below own2 (bl_alloc (bl_alloc (bl_alloc (bl_alloc (Below.refl _ wb) (o := .map #[] 0)) (o := .cells #[.map (some wb.heap.size)] 194)) (o := .cells #[] 3)) (o := .cells #[.slice (some ⟨wb.heap.size + 1 + 1, 0, none⟩) 0 0] 106)) (Nat.le_refl _)
  have hb0 : Below w.heap.size w ((((wb.alloc (.map #[] 0)).alloc (.cells #[.map (some wb.heap.size)] 194)).alloc (.cells #[] 3)).alloc (.cells #[.slice (some ⟨wb.heap.size + 1 + 1, 0, none⟩) 0 0] 106)) := (by repeat (first | with_reducible exact Below.refl _ _ | with_reducible assumption | with_reducible apply bl_drewN | with_reducible apply bl_drew | with_reducible apply bl_alloc | (with_reducible refine bl_set ?_ (by first | (simp; done) | (simp; omega)) _) | with_reducible refine bl_trans ?_ (by with_reducible assumption)))
  obtain ⟨W, hW⟩ : ∃ W, W = ((((wb.alloc (.map #[] 0)).alloc (.cells #[.map (some wb.heap.size)] 194)).alloc (.cells #[] 3)).alloc (.cells #[.slice (some ⟨wb.heap.size + 1 + 1, 0, none⟩) 0 0] 106)) := ⟨_, rfl⟩
  have hR1 : RX l.ps [] w.heap.size wb.heap.size (wb.heap.size + 1) (wb.heap.size + 1 + 1 + 1) [gr] W (-1) (List.replicate l.ps.length (faOf none)) [] noEx 0 := by rw [hW]; exact hR0
  rw [← hW] at own3 hb0 ⊢
  obtain ⟨b6, hb6⟩ : ∃ b, b = wb.heap.size + 1 := ⟨_, rfl⟩
  obtain ⟨b7, hb7⟩ : ∃ b, b = wb.heap.size + 1 + 1 + 1 := ⟨_, rfl⟩
  obtain ⟨m, hm⟩ : ∃ b, b = wb.heap.size := ⟨_, rfl⟩
  rw [← hb7, ← hb6, ← hm] at hR1 ⊢
  clear hR0 hW own2 hb6 hb7 hm hcb hfb hca hfa bwb bwa ba hgr1
  go_wp2
  go_loopw [29] (fun ix wr => ∃ k : Nat, k ≤ pl.length ∧ ix = .int .i64 k ∧ RX l.ps (pl.take k) w.heap.size m b6 b7 [gr] wr (-1) (List.replicate l.ps.length (faOf none)) [] noEx k ∧ wr.ownsRow w.heap.size 43 3 (.slice (some ⟨gr, 0, none⟩) l.ps.length l.ps.length) l.ps.length (flat Fa.cells (List.replicate l.ps.length (faOf none))) ∧ Below w.heap.size w wr) (fun ix _ => pl.length - (intOf ix).toNat)
  case atStart => exact ⟨0, by omega, rfl, hR1, own3, hb0⟩
  case round =>
    clear hR1 own3 hb0
    obtain ⟨k, hk, rfl, hR, hown, hb⟩ := hrel
    by_cases hlt : k < pl.length
    · have hlt3 : k < (pl.map (hitOf l)).length := by simpa using hlt
      obtain ⟨b, off, rfl, hbl2, hat⟩ := his_get h hlt3
      rw [List.getElem_map] at hat
      have hbw : b < w.heap.size := by omega
      have hbr : b < wr.heap.size := by have := hb.size; omega
      have htk : pl.take (k + 1) = pl.take k ++ [pl[k]] := List.take_succ_eq_append_getElem hlt
      obtain ⟨H, hH⟩ : ∃ H, H = hitOf l pl[k] := ⟨_, rfl⟩
      have hpk : plainPu pl[k] = true := by have := HPL.out; rw [List.all_eq_true] at this; exact this _ (List.getElem_mem hlt)
      have hik : 0 ≤ fnd ⟨pl[k].x, pl[k].y⟩ l.ps := by have := HIN.out; rw [List.all_eq_true] at this; simpa using this _ (List.getElem_mem hlt)
      unfold plainPu inB at hpk
      simp only [Bool.and_eq_true, decide_eq_true_eq] at hpk
      obtain ⟨kn, hkn⟩ : ∃ kn : Nat, fnd ⟨pl[k].x, pl[k].y⟩ l.ps = (kn : Int) := ⟨(fnd ⟨pl[k].x, pl[k].y⟩ l.ps).toNat, by omega⟩
      have hkl : kn < l.ps.length := ((fnd_iff l.ps HG.out.nd _ kn).1 hkn).1
      rw [← hH] at hat
      have HPU : Hid (∀ w1, Below wr.heap.size wr w1 → Calls Tryz.prog 148 #[H.val, .pointer (some ⟨b6, 0, none⟩), .pointer (some ⟨b7, 0, none⟩)] w1 fun e w' => e = .returned (.tuple #[]) ∧ RX l.ps (pl.take (k + 1)) w.heap.size m b6 b7 [gr] w' (-1) (List.replicate l.ps.length (faOf none)) [] noEx ((k : Int) + 1) ∧ Fr (fun k => w.heap.size ≤ k ∧ k ∉ [gr]) w1 w') := Lib.hid (fun w1 hb1 => by
        rw [htk]
        exact RX.push HG.out.nd (hR.step hb1) pl[k] ⟨hpk.2.1, hpk.2.2⟩ ⟨hpk.1.1, hpk.1.2⟩ kn hkl hkn H (by rw [hH]; unfold hitOf; rw [hkn]) c5 (by omega) (by have := hb.size; have := hb1.size; omega))
      unfold HiAt at hat
      obtain ⟨a0, a1, a2, a3⟩ := hat
      have r0 : wr.cell? ⟨b, off + k * 4, none⟩ = some (.int .i64 H.t) := by rw [hb.cell (p := ⟨_, _, none⟩) hbw]; exact a0
      have r1 : wr.cell? ⟨b, off + k * 4 + 1, none⟩ = some (.int .i64 H.p) := by rw [hb.cell (p := ⟨_, _, none⟩) hbw]; exact a1
      have r2 : wr.cell? ⟨b, off + k * 4 + 2, none⟩ = some (.int .i64 H.s) := by rw [hb.cell (p := ⟨_, _, none⟩) hbw]; exact a2
      have r3 : wr.cell? ⟨b, off + k * 4 + 3, none⟩ = some (.int .i64 H.b) := by rw [hb.cell (p := ⟨_, _, none⟩) hbw]; exact a3
      have hHN : Hid (hitOf l pl[k] = H) := Lib.hid hH.symm
      clear hH htk hpk hik hkn a0 a1 a2 a3
      go_wp2_with fail
      refine (HPU.out _ (bl_alloc (Below.refl _ _))).mono ?_
      rintro e w2 ⟨rfl, hR2, hf2⟩
      have hb1 : Below w.heap.size w (wr.alloc (.cells #[.int .i64 H.t, .int .i64 H.p, .int .i64 H.s, .int .i64 H.b] 161)) := bl_alloc hb
      have own2 := own_fr (own_below hown (bl_alloc (o := .cells #[.int .i64 H.t, .int .i64 H.p, .int .i64 H.s, .int .i64 H.b] 161) (Below.refl _ wr)) (Nat.le_refl _)) hf2 (fun q hq e => by have h9 : some gr = some q := hq; cases h9; exact e.2 (List.mem_singleton.2 rfl))
      have hb2 : Below w.heap.size w w2 := hb1.trans (hf2.below hb1.size (fun q hq => hq.1))
      clear hb1 hf2 HPU hb hown hR r0 r1 r2 r3
      go_wp2
      go_roundw
      case rel => exact ⟨k + 1, by omega, by go_num, by push_cast; exact hR2, own2, hb2⟩
      case measure => simp [intOf]; omega
    · have hk2 : k = pl.length := by omega
      subst hk2
      have hR1 := hR.more (show (((pl.length : Nat) : Int)) ≤ 20 + 4 * nF (List.replicate l.ps.length (faOf none)) by have := nF_nonneg (List.replicate l.ps.length (faOf none)); omega)
      rw [List.take_length] at hR1
      clear hR hlt hk
      go_wp2
      go_loopw [43] (fun tv wr => ∃ (T : Int) (out : List Fa), -1 ≤ T ∧ ((T = -1 ∧ tv = undef) ∨ tv = .int .i64 T) ∧ RX l.ps pl w.heap.size m b6 b7 [gr] wr T out [] noEx (20 + 4 * nF out) ∧ wr.ownsRow w.heap.size 43 3 (.slice (some ⟨gr, 0, none⟩) l.ps.length l.ps.length) l.ps.length (flat Fa.cells out) ∧ Below w.heap.size w wr) (fun tv _ => tkM tv)
      case atStart => exact ⟨-1, _, by omega, .inl ⟨rfl, rfl⟩, hR1, hown, hb⟩
      case round =>
        clear hR1 hown hb
        obtain ⟨T, out, hT, htv, ⟨pend, ticks, Sp, St, hM⟩, hown, hb⟩ := hrel
        cases ticks with
        | nil =>
          obtain ⟨gt, off, cap7, c7, l7⟩ := hM.head
          rw [List.length_nil] at c7
          have hlo := hM.ri.lo
          have hok := hM.ri.ok
          have own9 : wr.ownsRow w.heap.size 43 3 (.slice (some ⟨gr, 0, none⟩) l.ps.length l.ps.length) out.length (flat Fa.cells out) := by rw [hlo]; exact hown
          have OWN9 := Lib.hid own9
          clear hM hown own9 htv hlo
          go_wp2
          go_ret
          exact ⟨_, out, rfl, OWN9.out, hok, hb⟩
        | cons t rest =>
          obtain ⟨gt, off, cap7, gn, capn, c7, ct, hc1, hc2, c6, hlk, ⟨l6, l7, lt, ln, hnK, hn7, hnB⟩, hTt, htake⟩ := hM.take
          have htop := hM.ri.top.2 t List.mem_cons_self
          have hlo := hM.ri.lo
          have hpn : (pend t).length ≠ 0 := fun e => hM.ri.pne t List.mem_cons_self (List.length_eq_zero_iff.1 e)
          have hplen := hM.len t
          have hnf := nF_le out
          have hnf0 := nF_nonneg out
          rw [hlo] at hnf
          have hms : tkM (.int .i64 t) < tkM u43 := by
            rcases htv with ⟨rfl, rfl⟩ | rfl
            · show (20000 - t).toNat < 30000; omega
            · show (20000 - t).toNat < (20000 - T).toNat; omega
          have HMS := Lib.hid hms
          obtain ⟨L, hL⟩ : ∃ L, L = pend t := ⟨_, rfl⟩
          rw [← hL] at htake hlk hpn hplen
          have HTK := Lib.hid htake
          have hlk1 := hlk wr.drew rfl
          have hgr7 : gr ≠ b7 := fun e => (hM.k gr (List.mem_singleton.2 rfl)).1 (.inr (.inl e))
          have hB7 : w.heap.size ≤ b7 := hM.pt.lB.2.2
          have hgn : gr ≠ gn := fun e => hnK (List.mem_singleton.2 e.symm)
          clear hlk htake hms htv hM hL
          go_wp2
          go_region
          clear hlk1
          have ff7 := (HTK.out (off + 1) wr.drew (.inl rfl) (bl_drew (Below.refl _ _))).2.1
          go_upto_region 13 with fail
          obtain ⟨off', hoff', hif⟩ : ∃ off', (off' = off + 1 ∨ (cap7 = 0 ∧ off' = off)) ∧ (if cap7 = 0 then some (⟨gt, off, none⟩ : Addr) else some ⟨gt, off + 1, none⟩) = some ⟨gt, off', none⟩ := by
            by_cases h0 : cap7 = 0
            · exact ⟨off, .inr ⟨h0, rfl⟩, by rw [if_pos h0]⟩
            · exact ⟨off + 1, .inl rfl, by rw [if_neg h0]⟩
          rw [hif]
          obtain ⟨-, -, g7, ownL, htk3⟩ := HTK.out off' wr hoff' (Below.refl _ _)
          clear HTK hif hoff' ff7
          have own2 := own_far hown g7 hgr7
          have hb2 : Below w.heap.size w (wr.setCell ⟨b7, 0, none⟩ (.slice (some ⟨gt, off', none⟩) rest.length cap7)) := hb.grown g7 hb.size (fun q hq => by cases hq; exact hB7)
          obtain ⟨W2, hW2⟩ : ∃ W2, W2 = wr.setCell ⟨b7, 0, none⟩ (.slice (some ⟨gt, off', none⟩) rest.length cap7) := ⟨_, rfl⟩
          rw [← hW2] at own2 hb2 ownL htk3 ⊢
          clear hW2 g7 hown hb c6 c7 ct l6 l7 lt ln
          have HSORT := Lib.hid (sort_any L (own_below ownL (bl_drew (Below.refl _ W2)) (Nat.le_refl _)) (by omega))
          have OWN2 := Lib.hid own2
          have HB2 := Lib.hid hb2
          have HT3 := Lib.hid htk3
          clear own2 hb2 ownL htk3
          go_wp2_with fail
          refine HSORT.out.mono ?_
          rintro e w3 ⟨rfl, D, hperm, hsort, ownD, hf3⟩
          have hDL := hperm.length_eq
          have hf4 : Fr (fun k => k = gn) W2 w3 := (Fr.of_below (bl_drew (Below.refl _ W2))).trans2 hf3 (fun _ _ e => e)
          have hR3 := HT3.out w3 D hf4 hperm hsort
          have own3 := own_fr OWN2.out hf4 (fun q hq e => by have h9 : some gr = some q := hq; cases h9; exact hgn e)
          have hb3 : Below w.heap.size w w3 := HB2.out.trans (hf4.below HB2.out.size (fun q hq => by rw [hq]; exact hnB))
          clear HSORT OWN2 HB2 HT3 hperm hsort hf3 hf4
          have HDL := Lib.hid hDL
          rw [hDL] at ownD
          clear hDL
          have ht0 : 0 ≤ t := by omega
          have htt : t ≤ 20000 := by omega
          have hLb : L.length ≤ 1000 := by omega
          clear htop hTt hT hpn
          go_wp2
          go_loopw [51] (fun jx wr => ∃ (j : Nat) (out : List Fa), j ≤ L.length ∧ jx = .int .i64 j ∧ RX l.ps pl w.heap.size m b6 b7 [gn, gr] wr t out (D.drop j) noEx (20 + 4 * nF out) ∧ wr.ownsRow w.heap.size 161 4 (.slice (some ⟨gn, 0, none⟩) L.length capn) L.length (flat Hi.cells D) ∧ wr.ownsRow w.heap.size 43 3 (.slice (some ⟨gr, 0, none⟩) l.ps.length l.ps.length) l.ps.length (flat Fa.cells out) ∧ Below w.heap.size w wr) (fun jx _ => L.length - (intOf jx).toNat)
          case atStart => exact ⟨0, out, by omega, rfl, hR3, ownD, own3, hb3⟩
          case round =>
            clear hR3 ownD own3 hb3 hplen hnf0 hnf hlo
            clear out
            obtain ⟨j, out, hj, rfl, hR, hownD, hown, hb⟩ := hrel
            by_cases hlt : j < L.length
            · have hjD : j < D.length := by rw [HDL.out]; exact hlt
              obtain ⟨x, hx⟩ : ∃ x, x = D[j] := ⟨_, rfl⟩
              have hdr : D.drop j = x :: D.drop (j + 1) := by rw [hx]; exact List.drop_eq_getElem_cons hjD
              rw [hdr] at hR
              obtain ⟨pend', ticks', hri⟩ := hR.ri
              obtain ⟨hxt, i, hi, hxp, ⟨hs1, hs2⟩, ⟨hb1, hb2⟩, -⟩ := hri.srcn x List.mem_cons_self
              have hlo := hri.lo
              have htop := hri.top.1
              have hnf := nF_le out
              have hnf0 := nF_nonneg out
              rw [hlo] at hnf
              obtain ⟨sn, hsn⟩ : ∃ sn : Nat, x.s = (sn : Int) := ⟨x.s.toNat, by omega⟩
              have hsn4 : sn < 4 := by omega
              have hiI : (i : Int) < l.ps.length := by omega
              have hat := own_hiAtN hownD HDL.out j hjD
              rw [← hx] at hat
              unfold HiAt at hat
              rw [hxp, hsn] at hat
              obtain ⟨a0, a1, a2, a3⟩ := hat
              have hgnl := (hownD.lt gn rfl).2
              have hgrl := (hown.lt gr rfl).2
              have HR := Lib.hid hR
              have HXP := Lib.hid hxp
              have HXT := Lib.hid hxt
              have HSN := Lib.hid hsn
              clear hri hdr hx hR hxp hxt hsn hs1 hs2
              go_upto_region 17 with fail
              have hbh := heap_alloc_new wr (.cells #[.int .i64 x.t, .int .i64 (i : Int), .int .i64 (sn : Int), .int .i64 x.b] 161)
              have hbX0 : Below wr.heap.size wr (wr.alloc (.cells #[.int .i64 x.t, .int .i64 (i : Int), .int .i64 (sn : Int), .int .i64 x.b] 161)) := bl_alloc (Below.refl _ _)
              have hlX : wr.heap.size < (wr.alloc (.cells #[.int .i64 x.t, .int .i64 (i : Int), .int .i64 (sn : Int), .int .i64 x.b] 161)).heap.size := by simp
              obtain ⟨X, hX⟩ : ∃ X, X = wr.alloc (.cells #[.int .i64 x.t, .int .i64 (i : Int), .int .i64 (sn : Int), .int .i64 x.b] 161) := ⟨_, rfl⟩
              rw [← hX] at hbh hbX0 hlX ⊢
              obtain ⟨bx, hbx⟩ : ∃ b, b = wr.heap.size := ⟨_, rfl⟩
              have hlX' := hlX
              have hbxg : gr < bx := by omega
              have hwbx : w.heap.size ≤ bx := by have := hb.size; omega
              rw [← hbx] at hbh hlX ⊢
              have x0 : X.cell? ⟨bx, 0, none⟩ = some (.int .i64 x.t) := by rw [cell_of_row _ _ _ _ _ _ hbh]; rfl
              have x1 : X.cell? ⟨bx, 1, none⟩ = some (.int .i64 (i : Int)) := by rw [cell_of_row _ _ _ _ _ _ hbh]; rfl
              have x2 : X.cell? ⟨bx, 2, none⟩ = some (.int .i64 (sn : Int)) := by rw [cell_of_row _ _ _ _ _ _ hbh]; rfl
              have x3 : X.cell? ⟨bx, 3, none⟩ = some (.int .i64 x.b) := by rw [cell_of_row _ _ _ _ _ _ hbh]; rfl
              have HRX := Lib.hid (HR.out.grow hbX0 bx hbx hlX')
              have ODX := Lib.hid (own_below hownD hbX0 (Nat.le_refl _))
              have OFX := Lib.hid (own_below hown hbX0 (Nat.le_refl _))
              have HBX := Lib.hid (hb.trans (hbX0.mono hb.size))
              have hbxn : bx ≠ gr := by omega
              have hbxn2 : gn ≠ gr := fun e => hgn e.symm
              have HBH := Lib.hid hbh
              clear HR hownD hown hb hbX0 hX hbx hlX' hbh a0 a1 a2 a3
              have hst := HST.out.step HBX.out
              have y0 := (own_faAt3 OFX.out hlo i hi).1
              have hgX : gr < X.heap.size := by omega
              have hsg : g < X.heap.size := by omega
              obtain ⟨bc, oc, cc, q1, q2, q3⟩ := stAt_can hst hi
              rcases Int.decEq (out.getD i default).t (-1) with hne | heq
              · have HX1 := Lib.hid ((HRX.out.map (fun pend ticks hri => hri.skipF i HXP.out hne)).less (K' := [gn, gr]) (fun q hq => List.mem_cons_of_mem _ hq))
                obtain ⟨ft, hft⟩ : ∃ ft, ft = (out.getD i default).t := ⟨_, rfl⟩
                rw [← hft] at y0 hne
                have htb : (ft == (-1 : Int)) = false := by simpa using hne
                have htc : (ft != (-1 : Int)) = true := by simpa using hne
                clear hft hst HRX q1 q2 q3
                go_wp2
                (refine wp_region_ext (by kernel_rfl) (by kernel_rfl) ?_; have hX := @ext_cell; (repeat (go_big_quiet_step (fail))); refine wpQuiet_nil ?_; clear hX; intro wx hw'; obtain ⟨⟨wx, hbx⟩, rfl⟩ := hw'; obtain ⟨hcx, hfx⟩ := bcell hbx)
                go_wp2
                go_roundw
                case rel => exact ⟨j + 1, out, by omega, by go_num, HX1.out.step hbx, own_below ODX.out hbx (Nat.le_refl _), own_below OFX.out hbx (Nat.le_refl _), HBX.out.trans (hbx.mono HBX.out.size)⟩
                case measure => simp [intOf]; omega
              · obtain ⟨cv, hcv⟩ : ∃ cv, cv = canV l.ps[i] := ⟨_, rfl⟩
                obtain ⟨hcv0, hcv1⟩ := canV_bd l.ps[i]
                have hch := canV_has l.ps[i] (sn : Int) (by omega) (by omega)
                rw [← hcv] at hcv0 hcv1 hch q3
                have hcan : canH l.ps i (x.t, x.s, x.b) = decide (cv / 2 ^ (sn : Int).toNat % 2 = 1) := by
                  rw [hch, HSN.out, ← getD_pc l.ps i hi]; rfl
                have HHA := Lib.hid (fun w' => hasSide_any cv (sn : Int) w' (by omega) (by omega) hcv0 hcv1)
                rw [heq] at y0
                clear hcv hch
                rcases dec_cases (cv / 2 ^ (sn : Int).toNat % 2 = 1) with ⟨g1, g1'⟩ | ⟨g1, g1'⟩
                · rw [g1] at HHA hcan
                  have hF := HRX.out.map (fun pend ticks hri => hri.fall HG.out i HXP.out hi heq ht0 hcan)
                  have hnf2 := nF_set out i ⟨x.t, x.s, x.b⟩ (by rw [hlo]; exact hi) heq (by show x.t ≠ -1; have := HXT.out; omega)
                  have HF := Lib.hid hF
                  have HNF := Lib.hid hnf2
                  clear hF hnf2 hcan g1 g1' heq hst HRX
                  go_wp2
                  (refine wp_region_ext (by kernel_rfl) (by kernel_rfl) ?_; have hX := @ext_cell; (repeat (go_big_quiet_step (first | (go_at_call 153; exact ext_same (HHA.out _))))); refine wpQuiet_nil ?_; clear hX; intro wx hw'; obtain ⟨⟨wx, hbx⟩, rfl⟩ := hw'; obtain ⟨hcx, hfx⟩ := bcell hbx)
                  have HF1 := Lib.hid (HF.out.step hbx)
                  have OD1 := Lib.hid (own_below ODX.out hbx (Nat.le_refl _))
                  have OF1 := Lib.hid (own_below OFX.out hbx (Nat.le_refl _))
                  have HB1 := Lib.hid (HBX.out.trans (hbx.mono HBX.out.size))
                  have HBH1 : Hid (wx.heap[bx]? = some (.cells #[.int .i64 x.t, .int .i64 (i : Int), .int .i64 (sn : Int), .int .i64 x.b] 161 (0, 0))) := Lib.hid (by rw [hbx.block bx hlX]; exact HBH.out)
                  have hlx2 : bx < wx.heap.size := Nat.lt_of_lt_of_le hlX hbx.size
                  have hgx2 : gr < wx.heap.size := Nat.lt_of_lt_of_le hgX hbx.size
                  have kk0 := own_cell OF1.out (j := i * 3) (by omega)
                  obtain ⟨⟨v0, c0⟩, f0⟩ := kk0
                  obtain ⟨⟨v1, c1⟩, f1⟩ := own_cell OF1.out (j := i * 3 + 1) (by omega)
                  obtain ⟨⟨v2, c2⟩, f2⟩ := own_cell OF1.out (j := i * 3 + 2) (by omega)
                  have y0' : wx.cell? ⟨bx, 0, none⟩ = some (.int .i64 x.t) := by rw [cell_of_row _ _ _ _ _ _ HBH1.out]; rfl
                  have y1' : wx.cell? ⟨bx, 1, none⟩ = some (.int .i64 (i : Int)) := by rw [cell_of_row _ _ _ _ _ _ HBH1.out]; rfl
                  have y2' : wx.cell? ⟨bx, 2, none⟩ = some (.int .i64 (sn : Int)) := by rw [cell_of_row _ _ _ _ _ _ HBH1.out]; rfl
                  have y3' : wx.cell? ⟨bx, 3, none⟩ = some (.int .i64 x.b) := by rw [cell_of_row _ _ _ _ _ _ HBH1.out]; rfl
                  have s4 := wrap8_side' (sn : Int) (by omega) (by omega)
                  clear hcx hfx x0 x1 x2 x3 y0 q1 q2 q3 HHA hbx ODX OFX HBX
                  go_upto_region 19 with fail
                  obtain ⟨f, hf⟩ : ∃ f : Fa, f = ⟨x.t, (sn : Int), x.b⟩ := ⟨_, rfl⟩
                  have hfx' : (⟨x.t, x.s, x.b⟩ : Fa) = f := by rw [hf, HSN.out]
                  have g5 := grown_setCells gr f.cells wx (i * 3)
                  have R5 := HF1.out.fr (Fr.of_grown (N := fun k => k = gr) g5 (fun q hq _ => by cases hq; rfl)) (fun k hk => by rw [hk]; simp)
                  have O5 := own_faSet OF1.out hlo i hi f
                  have D5 := own_far OD1.out g5 hbxn2
                  have B5 : Below w.heap.size w (setCells wx gr (i * 3) f.cells) := bl_grown HB1.out g5 (fun q hq => by cases hq; exact (OF1.out.lt gr rfl).1)
                  have H5 : (setCells wx gr (i * 3) f.cells).heap[bx]? = some (.cells #[.int .i64 x.t, .int .i64 (i : Int), .int .i64 (sn : Int), .int .i64 x.b] 161 (0, 0)) := by rw [g5.block bx hlx2 (fun e => by cases e; exact hbxn rfl)]; exact HBH1.out
                  have hnf5 := HNF.out
                  rw [hfx'] at R5 hnf5
                  have hga5 : (out.set i f).getD i default = f := by rw [getD_set out i i f (by rw [hlo]; exact hi), if_pos rfl]
                  have hlo5 : (out.set i f).length = l.ps.length := by rw [List.length_set]; exact hlo
                  have hnfm : nF (out.set i f) ≤ 200 := by have := nF_le (out.set i f); rw [hlo5] at this; omega
                  have ht9 : t + 9 ≤ 1000 + 9 * nF (out.set i f) := by omega
                  have hc0 : 20 + 4 * nF out ≤ 16 + 4 * nF (out.set i f) + ((0 : Nat) : Int) := by push_cast; omega
                  have R6 := R5.more hc0
                  obtain ⟨W5, hW5⟩ : ∃ W, W = setCells wx gr (i * 3) f.cells := ⟨_, rfl⟩
                  have hW5' : W5 = ((wx.setCell ⟨gr, i * 3, none⟩ (.int .i64 x.t)).setCell ⟨gr, i * 3 + 1, none⟩ (.int .i8 (sn : Int))).setCell ⟨gr, i * 3 + 2, none⟩ (.int .i64 x.b) := by rw [hW5, hf]; rfl
                  rw [← hW5] at R6 O5 D5 B5 H5
                  rw [← hW5']
                  have HFT : Hid (f.t = t ∧ f.f = (sn : Int) ∧ f.t = x.t) := Lib.hid (by rw [hf]; exact ⟨HXT.out, rfl, rfl⟩)
                  obtain ⟨out5, ho5⟩ : ∃ o, o = out.set i f := ⟨_, rfl⟩
                  rw [← ho5] at R6 O5 hga5 hlo5 hnfm ht9
                  have HGA := Lib.hid hga5
                  have hxt9 : 0 ≤ x.t ∧ x.t ≤ 20000 := by have := HXT.out; omega
                  obtain ⟨hxt0, hxt1⟩ := hxt9
                  clear R5 g5 hc0 hnf5 hW5 hW5' HF1 OF1 OD1 HB1 HBH1 c0 c1 c2 f0 f1 f2 y0' y1' y2' y3' HF HNF hga5 hfx' hf ho5 s4 hlx2 hgx2 hnf hnf0 htop hlo
                  clear out
                  go_wp2
                  go_loopw [88] (fun sx wr => ∃ s : Nat, s ≤ 4 ∧ sx = .int .i64 s ∧ RX l.ps pl w.heap.size m b6 b7 [bx, gn, gr] wr t out5 (D.drop (j + 1)) (sideEx l.ps i f s) (16 + 4 * nF out5 + (s : Int)) ∧ wr.ownsRow w.heap.size 161 4 (.slice (some ⟨gn, 0, none⟩) L.length capn) L.length (flat Hi.cells D) ∧ wr.ownsRow w.heap.size 43 3 (.slice (some ⟨gr, 0, none⟩) l.ps.length l.ps.length) l.ps.length (flat Fa.cells out5) ∧ Below w.heap.size w wr ∧ wr.heap[bx]? = some (.cells #[.int .i64 x.t, .int .i64 (i : Int), .int .i64 (sn : Int), .int .i64 x.b] 161 (0, 0))) (fun sx _ => 4 - (intOf sx).toNat)
                  case atStart => exact ⟨0, by omega, rfl, R6, D5, O5, B5, H5⟩
                  case round =>
                    clear R6 D5 O5 B5 H5
                    obtain ⟨s, hs, rfl, hR, hD, hO, hB, hH⟩ := hrel
                    by_cases hs4 : s < 4
                    · have hst := HST.out.step hB
                      have hhl := (Array.getElem?_eq_some_iff.1 hH).1
                      have hglr : g < wr.heap.size := by have := hB.size; omega
                      have x0 : wr.cell? ⟨bx, 0, none⟩ = some (.int .i64 x.t) := by rw [cell_of_row _ _ _ _ _ _ hH]; rfl
                      have x1 : wr.cell? ⟨bx, 1, none⟩ = some (.int .i64 (i : Int)) := by rw [cell_of_row _ _ _ _ _ _ hH]; rfl
                      have x2 : wr.cell? ⟨bx, 2, none⟩ = some (.int .i64 (sn : Int)) := by rw [cell_of_row _ _ _ _ _ _ hH]; rfl
                      obtain ⟨bb, ob, cb, z1, z2, z3⟩ := stAt_bes hst hi
                      have z4 := z3 s hs4
                      have hsI : (s : Int) < 4 := by omega
                      have hgi := getD_pc l.ps i hi
                      have HK : Hid (fnd (nxt (l.ps.getD i default).at_ (s : Int)) l.ps = besV l.ps l.ps[i] s) := Lib.hid (by rw [hgi]; rfl)
                      have HLT := Lib.hid (fnd_lt (nxt (l.ps.getD i default).at_ (s : Int)) l.ps)
                      obtain ⟨kk, hkk⟩ : ∃ kk, kk = besV l.ps l.ps[i] s := ⟨_, rfl⟩
                      rw [← hkk] at z4 HK
                      have HR := Lib.hid hR
                      have HDD := Lib.hid hD
                      have HOO := Lib.hid hO
                      have HBB := Lib.hid hB
                      have HHH := Lib.hid hH
                      clear hkk z3 hR hD hO hB hH
                      go_wp2
                      (refine wp_region_ext (by kernel_rfl) (by kernel_rfl) ?_; have hX := @ext_cell; (repeat (go_big_quiet_step (fail))); refine wpQuiet_nil ?_; clear hX; intro wx hw'; obtain ⟨⟨wx, hbx⟩, rfl⟩ := hw'; obtain ⟨hcx, hfx⟩ := bcell hbx)
                      have HR1 := Lib.hid (HR.out.step hbx)
                      have HD1 := Lib.hid (own_below HDD.out hbx (Nat.le_refl _))
                      have HO1 := Lib.hid (own_below HOO.out hbx (Nat.le_refl _))
                      have HB1 := Lib.hid (HBB.out.trans (hbx.mono HBB.out.size))
                      have HH1 := Lib.hid (show wx.heap[bx]? = some (.cells #[.int .i64 x.t, .int .i64 (i : Int), .int .i64 (sn : Int), .int .i64 x.b] 161 (0, 0)) by rw [hbx.block bx hhl]; exact HHH.out)
                      have hglx := Nat.lt_of_lt_of_le hglr hbx.size
                      have hhlx := Nat.lt_of_lt_of_le hhl hbx.size
                      clear hcx hfx hst HR HDD HOO HBB HHH x0 x1 x2 z1 z2 z4 hbx hglr hhl
                      obtain ⟨Y, hY⟩ : ∃ Y, Y = wx := ⟨_, rfl⟩
                      subst hY
                      have x0 : Y.cell? ⟨bx, 0, none⟩ = some (.int .i64 x.t) := by rw [cell_of_row _ _ _ _ _ _ HH1.out]; rfl
                      have x1 : Y.cell? ⟨bx, 1, none⟩ = some (.int .i64 (i : Int)) := by rw [cell_of_row _ _ _ _ _ _ HH1.out]; rfl
                      have x2 : Y.cell? ⟨bx, 2, none⟩ = some (.int .i64 (sn : Int)) := by rw [cell_of_row _ _ _ _ _ _ HH1.out]; rfl
                      by_cases hk0 : kk < 0
                      · have HN := Lib.hid (HR1.out.map (fun pend ticks hri => RI.sideNone hri (by rw [HK.out]; exact hk0)))
                        have hd0 : decide ((0 : Int) ≤ kk) = false := decide_eq_false (by omega)
                        have hd1 : decide (kk < (0 : Int)) = true := decide_eq_true hk0
                        clear HR1
                        go_wp2
                        (refine wp_region_ext (by kernel_rfl) (by kernel_rfl) ?_; have hX := @ext_cell; (repeat (go_big_quiet_step (fail))); refine wpQuiet_nil ?_; clear hX; intro wx hw'; obtain ⟨⟨wx, hbx⟩, rfl⟩ := hw'; obtain ⟨hcx, hfx⟩ := bcell hbx)
                        go_wp2
                        go_roundw
                        case rel => exact ⟨s + 1, by omega, by go_num, (HN.out.step hbx).more (by push_cast; omega), own_below HD1.out hbx (Nat.le_refl _), own_below HO1.out hbx (Nat.le_refl _), HB1.out.trans (hbx.mono HB1.out.size), by rw [hbx.block bx hhlx]; exact HH1.out⟩
                        case measure => simp [intOf]; omega
                      · obtain ⟨kn, hkn⟩ : ∃ kn : Nat, kk = (kn : Int) := ⟨kk.toNat, by omega⟩
                        subst hkn
                        have hknl : kn < l.ps.length := by have := HLT.out; rw [HK.out] at this; have := this (by omega); simpa using this
                        have hstY := HST.out.step HB1.out
                        obtain ⟨bh, oh, ch, w1', w2', w3'⟩ := stAt_hit hstY hi
                        have u0 := w3' sn hsn4
                        obtain ⟨n1, n2, n3, n4, n5, n6⟩ := vBd_piece2 l hv i hi
                        have hHV : 0 ≤ hv0 l.ps[i] sn ∧ hv0 l.ps[i] sn ≤ 15 := by
                          have := hitsV_le l.ps[i].k l.ps[i].t sn n1 n2 n3 n4 (by omega) (by omega)
                          unfold hv0; omega
                        have HHV : Hid (max (hitsV (l.ps.getD i default).k (l.ps.getD i default).t f.f) 0 = hv0 l.ps[i] sn) := Lib.hid (by rw [hgi, HFT.out.2.1]; rfl)
                        have HDV : Hid ((l.ps.getD i default).d = l.ps[i].d) := Lib.hid (by rw [hgi])
                        obtain ⟨bp, op, cp, p1, p2, hatp⟩ := stAt_pc hstY hi
                        have pd := hatp.2.2.2.2
                        obtain ⟨d, hd⟩ : ∃ d, d = l.ps[i].d := ⟨_, rfl⟩
                        rw [← hd] at pd n5 n6 HDV
                        obtain ⟨hx, hhx⟩ : ∃ hx, hx = hv0 l.ps[i] sn := ⟨_, rfl⟩
                        rw [← hhx] at u0 hHV HHV
                        obtain ⟨hx0, hx15⟩ := hHV
                        have HPD := Lib.hid pd
                        have HP1 := Lib.hid p1
                        have hd0 : decide ((0 : Int) ≤ (kn : Int)) = true := decide_eq_true (by omega)
                        have HHA := Lib.hid (fun w' => hasSide_any hx (s : Int) w' (by omega) (by omega) hx0 hx15)
                        clear w3' hgi n1 n2 n3 n4 hatp hd hhx hstY pd p1
                        rcases dec_cases (hx / 2 ^ (s : Int).toNat % 2 = 1) with ⟨g1, g1'⟩ | ⟨g1, g1'⟩
                        · rw [g1] at HHA
                          rw [Int.toNat_natCast] at g1'
                          have HBIT := Lib.hid g1'
                          clear g1 g1'
                          go_wp2
                          (refine wp_region_ext (by kernel_rfl) (by kernel_rfl) ?_; have hX := @ext_cell; (repeat (go_big_quiet_step (first | (go_at_call 153; exact ext_same (HHA.out _))))); refine wpQuiet_nil ?_; clear hX; intro wx hw'; obtain ⟨⟨wx, hbx⟩, rfl⟩ := hw'; obtain ⟨hcx, hfx⟩ := bcell hbx)
                          have HR2 := Lib.hid (HR1.out.step hbx)
                          have HD2 := Lib.hid (own_below HD1.out hbx (Nat.le_refl _))
                          have HO2 := Lib.hid (own_below HO1.out hbx (Nat.le_refl _))
                          have HB2 := Lib.hid (HB1.out.trans (hbx.mono HB1.out.size))
                          have HH2 := Lib.hid (show wx.heap[bx]? = some (.cells #[.int .i64 x.t, .int .i64 (i : Int), .int .i64 (sn : Int), .int .i64 x.b] 161 (0, 0)) by rw [hbx.block bx hhlx]; exact HH1.out)
                          have r1 : wx.cell? ⟨g, 0, none⟩ = some (.slice (some ⟨bp, op, none⟩) l.ps.length cp) := by rw [hbx.cell (p := ⟨_, _, none⟩) hglx]; exact HP1.out
                          have r2 : wx.cell? ⟨bp, op + i * 5 + 4, none⟩ = some (.int .i8 d) := by rw [hbx.cell (p := ⟨_, _, none⟩) p2]; exact HPD.out
                          have hglz := Nat.lt_of_lt_of_le hglx hbx.size
                          have hhlz := Nat.lt_of_lt_of_le hhlx hbx.size
                          have hplz := Nat.lt_of_lt_of_le p2 hbx.size
                          have hbpw : bp < w.heap.size := by
                            obtain ⟨b9, o9, c9, p1', p2', -⟩ := stAt_pc HST.out hi
                            have e9 : wx.cell? ⟨g, 0, none⟩ = some (.slice (some ⟨b9, o9, none⟩) l.ps.length c9) := by rw [HB2.out.cell (p := ⟨_, _, none⟩) hgl]; exact p1'
                            rw [r1] at e9
                            simp only [Option.some.injEq, Value.slice.injEq, Addr.mk.injEq] at e9
                            omega
                          clear hcx hfx HR1 HD1 HO1 HB1 HH1 HP1 HPD x0 x1 x2 hbx u0 w1' w2' p2 hglx hhlx HHA hx0 hx15
                          obtain ⟨Z, hZ⟩ : ∃ Z, Z = wx := ⟨_, rfl⟩
                          subst hZ
                          have x0 : Z.cell? ⟨bx, 0, none⟩ = some (.int .i64 x.t) := by rw [cell_of_row _ _ _ _ _ _ HH2.out]; rfl
                          have x1 : Z.cell? ⟨bx, 1, none⟩ = some (.int .i64 (i : Int)) := by rw [cell_of_row _ _ _ _ _ _ HH2.out]; rfl
                          have HOP := Lib.hid (fun w' => opposite_any (s : Int) w' (by omega) (by omega))
                          have HADD : Hid (∀ w1, Below Z.heap.size Z w1 → Calls Tryz.prog 148 #[Hi.val ⟨x.t + d, kn, ((s : Int) + 2) % 4, i⟩, .pointer (some ⟨b6, 0, none⟩), .pointer (some ⟨b7, 0, none⟩)] w1 fun e w' => e = .returned (.tuple #[]) ∧ RX l.ps pl w.heap.size m b6 b7 [bx, gn, gr] w' t out5 (D.drop (j + 1)) (sideEx l.ps i f (s + 1)) (16 + 4 * nF out5 + (s : Int) + 1) ∧ Fr (fun k => w.heap.size ≤ k ∧ k ∉ [bx, gn, gr]) w1 w') := Lib.hid (fun w1 hb1 =>
                            RX.side HG.out (HR2.out.step hb1) hs4 hi hknl HGA.out HFT.out.1 ht0 ht9 (by rw [HHV.out]; exact HBIT.out) HK.out ⟨x.t + d, kn, ((s : Int) + 2) % 4, i⟩ (by rw [HFT.out.2.2, HDV.out]) c5 (by omega) (Nat.le_trans HB2.out.size hb1.size))
                          have s5 : IntKind.i64.wrap d = d := by rw [IntKind.wrap_i64]; omega
                          have s6 : IntKind.i64.wrap (x.t + d) = x.t + d := by rw [IntKind.wrap_i64]; omega
                          have hgw9 : ¬ (w.heap.size ≤ g) := by omega
                          have hbw9 : ¬ (w.heap.size ≤ bp) := by omega
                          clear HR2 n5 n6
                          go_upto_region 24 with fail
                          go_region_held3 (fun w' => w'.cell? ⟨g, 0, none⟩ = some (.slice (some ⟨bp, op, none⟩) l.ps.length cp) ∧ w'.cell? ⟨bp, op + i * 5 + 4, none⟩ = some (.int .i8 d) ∧ w'.cell? ⟨bx, 0, none⟩ = some (.int .i64 x.t) ∧ w'.cell? ⟨bx, 1, none⟩ = some (.int .i64 (i : Int))) (first | go_keep | (go_split_ands; refine ⟨?_, ?_, ?_, ?_⟩ <;> first | (rw [cell_fr hf4 (by first | assumption | omega) (fun e => hgw9 e.1)]; assumption) | (rw [cell_fr hf4 (by first | assumption | omega) (fun e => hbw9 e.1)]; assumption) | (rw [cell_fr hf4 (by first | assumption | omega) (fun e => e.2 List.mem_cons_self)]; assumption))) (first | (go_at_call 154; refine (HOP.out _).mono ?_; rintro e wo ⟨rfl, rfl⟩) | (go_at_call 148; refine (HADD.out _ (by repeat (first | with_reducible exact Below.refl _ _ | with_reducible assumption | with_reducible apply bl_drewN | with_reducible apply bl_drew | with_reducible apply bl_alloc | (with_reducible refine bl_set ?_ (by first | (simp; done) | (simp; omega)) _) | with_reducible refine bl_trans ?_ (by with_reducible assumption)))).mono ?_; rintro e w4 ⟨rfl, hR4, hf4⟩))
                          have own4 := own_fr (own_below HD2.out (bl_drew (Below.refl _ Z)) (Nat.le_refl _)) hf4 (fun q hq e => by have h9 : some gn = some q := hq; cases h9; exact e.2 (by simp))
                          have own5 := own_fr (own_below HO2.out (bl_drew (Below.refl _ Z)) (Nat.le_refl _)) hf4 (fun q hq e => by have h9 : some gr = some q := hq; cases h9; exact e.2 (by simp))
                          have hB4 : Below w.heap.size w w4 := (bl_drew HB2.out).trans (hf4.below HB2.out.size (fun q hq => hq.1))
                          have hH4 : w4.heap[bx]? = some (.cells #[.int .i64 x.t, .int .i64 (i : Int), .int .i64 (sn : Int), .int .i64 x.b] 161 (0, 0)) := by rw [hf4.block bx hhlz (fun e => e.2 List.mem_cons_self)]; exact HH2.out
                          go_wp2
                          go_roundw
                          case rel => exact ⟨s + 1, by omega, by go_num, by have e9 : (16 + 4 * nF out5 + ((s + 1 : Nat) : Int)) = 16 + 4 * nF out5 + (s : Int) + 1 := by push_cast; omega
                                                                            rw [e9]; exact hR4, own4, own5, hB4, hH4⟩
                          case measure => simp [intOf]; omega
                        · rw [g1] at HHA
                          rw [Int.toNat_natCast] at g1'
                          have HN := Lib.hid (HR1.out.map (fun pend ticks hri => RI.sideBit hri (by rw [HHV.out]; exact g1')))
                          clear g1 g1' HR1
                          go_wp2
                          (refine wp_region_ext (by kernel_rfl) (by kernel_rfl) ?_; have hX := @ext_cell; (repeat (go_big_quiet_step (first | (go_at_call 153; exact ext_same (HHA.out _))))); refine wpQuiet_nil ?_; clear hX; intro wx hw'; obtain ⟨⟨wx, hbx⟩, rfl⟩ := hw'; obtain ⟨hcx, hfx⟩ := bcell hbx)
                          go_wp2
                          go_roundw
                          case rel => exact ⟨s + 1, by omega, by go_num, (HN.out.step hbx).more (by push_cast; omega), own_below HD1.out hbx (Nat.le_refl _), own_below HO1.out hbx (Nat.le_refl _), HB1.out.trans (hbx.mono HB1.out.size), by rw [hbx.block bx hhlx]; exact HH1.out⟩
                          case measure => simp [intOf]; omega
                    · have hs4' : s = 4 := by omega
                      subst hs4'
                      have HRE := Lib.hid ((hR.map (fun pend ticks hri => RI.sideDone hri)).less (K' := [gn, gr]) (fun q hq => List.mem_cons_of_mem _ hq))
                      have hce : 16 + 4 * nF out5 + ((4 : Nat) : Int) ≤ 20 + 4 * nF out5 := by push_cast; omega
                      clear hR
                      go_wp2
                      go_roundw
                      case rel => exact ⟨j + 1, out5, by omega, by go_num, HRE.out.more hce, hD, hO, hB⟩
                      case measure => simp [intOf]; omega
                · rw [g1] at HHA hcan
                  have HX1 := Lib.hid ((HRX.out.map (fun pend ticks hri => hri.skipC i HXP.out (by rw [hcan]; exact Bool.false_ne_true))).less (K' := [gn, gr]) (fun q hq => List.mem_cons_of_mem _ hq))
                  clear hcan g1 g1' heq hst HRX
                  go_wp2
                  (refine wp_region_ext (by kernel_rfl) (by kernel_rfl) ?_; have hX := @ext_cell; (repeat (go_big_quiet_step (first | (go_at_call 153; exact ext_same (HHA.out _))))); refine wpQuiet_nil ?_; clear hX; intro wx hw'; obtain ⟨⟨wx, hbx⟩, rfl⟩ := hw'; obtain ⟨hcx, hfx⟩ := bcell hbx)
                  go_wp2
                  go_roundw
                  case rel => exact ⟨j + 1, out, by omega, by go_num, HX1.out.step hbx, own_below ODX.out hbx (Nat.le_refl _), own_below OFX.out hbx (Nat.le_refl _), HBX.out.trans (hbx.mono HBX.out.size)⟩
                  case measure => simp [intOf]; omega
            · have hjL : j = L.length := by omega
              subst hjL
              have hdr : D.drop L.length = [] := by rw [← HDL.out, List.drop_length]
              rw [hdr] at hR
              have hR2 := Lib.hid (hR.less (K' := [gr]) (fun q hq => by rw [List.mem_singleton] at hq; subst hq; simp))
              clear hR hdr
              go_wp2
              go_roundw
              case rel => exact ⟨t, out, by omega, .inr rfl, hR2.out, hown, hb⟩
              case measure => exact HMS.out
end Go.Proofs.YtmeefmoblkiebaaGreat
/- Contracts: PushOne (both). -/
namespace Go.Proofs.YtmeefmoblkiebaaGreat
open Go.RowKit
set_option linter.unusedVariables false
set_option linter.unusedSimpArgs false
set_option maxHeartbeats 400000
set_option maxRecDepth 100000
open Classical in
/-- How all pieces fall. -/
noncomputable def runOf (ps : List Pc) (pl : List Pu) : List Fa := if h : ∃ fs, okFa ps pl fs then h.choose else List.replicate ps.length (faOf none)
theorem runOf_length (ps : List Pc) (pl : List Pu) : (runOf ps pl).length = ps.length := by
  unfold runOf
  split
  · rename_i h
    exact h.choose_spec.1
  · simp
theorem runOf_eq (ps : List Pc) (pl : List Pu) (fs : List Fa) (G : Good ps pl) (h : okFa ps pl fs) : fs = runOf ps pl := by
  have hx : ∃ fs, okFa ps pl fs := ⟨fs, h⟩
  unfold runOf
  rw [dif_pos hx]
  exact due_unique ps pl fs _ G.d1 G.t0 h hx.choose_spec
end Go.Proofs.YtmeefmoblkiebaaGreat
/- Contracts: RunBoard (both). -/
namespace Go.Proofs.YtmeefmoblkiebaaGreat
open Go.RowKit
set_option linter.unusedVariables false
set_option linter.unusedSimpArgs false
set_option maxHeartbeats 400000
set_option maxRecDepth 100000
end Go.Proofs.YtmeefmoblkiebaaGreat
/- Machines: plain laws. -/
namespace Go.Proofs.YtmeefmoblkiebaaGreat
open Go.RowKit
set_option linter.unusedVariables false
set_option linter.unusedSimpArgs false
set_option maxHeartbeats 400000
set_option maxRecDepth 100000
structure Mc where
  bd : Bd
  ins : List Po
  outs : List Ce
def PosOk (ps : List Po) : Prop := ∀ k (h : k < ps.length), ps[k].ok
def Mc.ok (m : Mc) : Prop := m.bd.ok ∧ PosOk m.ins ∧ CesOk m.outs
abbrev mcv (wd hg : Int) (s si so : Value) : Value := .agg #[.int .i8 wd, .int .i8 hg, s, si, so]
def poOk (ps : List Pc) (p : Po) : Bool := inB p.s 0 3 && decide (0 ≤ fnd ⟨p.x, p.y⟩ ps)
def outOk (ps : List Pc) (c : Ce) : Bool := decide (0 ≤ fnd c ps)
def vMc (m : Mc) : Bool := (vBd m.bd && decide (m.bd.ps.length ≤ 60) && inB m.ins.length 1 6 && inB m.outs.length 1 8) && (m.ins.all (poOk m.bd.ps) && decide m.ins.Nodup && m.outs.all (outOk m.bd.ps))
theorem vMc_parts (m : Mc) (h : vMc m = true) : vBd m.bd = true ∧ m.bd.ps.length ≤ 60 ∧ 1 ≤ m.ins.length ∧ m.ins.length ≤ 6 ∧ 1 ≤ m.outs.length ∧ m.outs.length ≤ 8 ∧ m.ins.all (poOk m.bd.ps) = true ∧ m.ins.Nodup ∧ m.outs.all (outOk m.bd.ps) = true := by
  unfold vMc inB at h
  simp only [Bool.and_eq_true, decide_eq_true_eq] at h
  obtain ⟨⟨⟨⟨h1, h2⟩, h3, h4⟩, h5, h6⟩, ⟨h7, h8⟩, h9⟩ := h
  exact ⟨h1, h2, by omega, by omega, by omega, by omega, h7, h8, h9⟩
/-- The push of an input. -/
def puOf (ins : List Po) (late : List Int) (i : Nat) : Pu := ⟨(ins.getD i default).x, (ins.getD i default).y, (ins.getD i default).s, late.getD i 0⟩
/-- The pushes of a row, of the first k inputs. -/
def mPuTo (ins : List Po) (row : Nat) (late : List Int) : Nat → List Pu
  | 0 => []
  | k + 1 => mPuTo ins row late k ++ (if row.testBit k = true then [puOf ins late k] else [])
def mPu (m : Mc) (row : Nat) (late : List Int) : List Pu := mPuTo m.ins row late m.ins.length
theorem mPuTo_len (ins : List Po) (row : Nat) (late : List Int) (k : Nat) : (mPuTo ins row late k).length ≤ k := by
  induction k with
  | zero => exact Nat.le_refl _
  | succ k ih =>
    unfold mPuTo
    rw [List.length_append]
    split <;> simp <;> omega
theorem mPuTo_mem (ins : List Po) (row : Nat) (late : List Int) (k : Nat) (p : Pu) (h : p ∈ mPuTo ins row late k) : ∃ i, i < k ∧ p = puOf ins late i := by
  induction k with
  | zero => cases h
  | succ k ih =>
    unfold mPuTo at h
    rcases List.mem_append.1 h with h | h
    · obtain ⟨i, hi, e⟩ := ih h
      exact ⟨i, by omega, e⟩
    · split at h
      · rw [List.mem_singleton] at h
        exact ⟨k, by omega, h⟩
      · cases h
def lateOk (late : List Int) : Prop := ∀ i, 0 ≤ late.getD i 0 ∧ late.getD i 0 ≤ 100
theorem getD_po (ps : List Po) (k : Nat) (h : k < ps.length) : ps.getD k default = ps[k] := by rw [List.getD_eq_getElem?_getD, List.getElem?_eq_getElem h]; rfl
theorem mPu_ok (m : Mc) (hv : vMc m = true) (hok : m.ok) (row : Nat) (late : List Int) (hl : lateOk late) : PusOk (mPu m row late) ∧ (mPu m row late).all plainPu = true ∧ (mPu m row late).all (fun p => decide (0 ≤ fnd ⟨p.x, p.y⟩ m.bd.ps)) = true ∧ (mPu m row late).length ≤ 20 := by
  obtain ⟨-, -, h3, h4, -, -, h7, -, -⟩ := vMc_parts m hv
  have key : ∀ p ∈ mPu m row late, p.ok ∧ plainPu p = true ∧ decide (0 ≤ fnd ⟨p.x, p.y⟩ m.bd.ps) = true := by
    intro p hp
    obtain ⟨i, hi, rfl⟩ := mPuTo_mem m.ins row late m.ins.length p hp
    have h8 := List.all_eq_true.1 h7 m.ins[i] (List.getElem_mem hi)
    obtain ⟨l0, l1⟩ := hl i
    have ho := hok.2.1 i hi
    unfold poOk at h8
    unfold puOf
    rw [getD_po m.ins i hi]
    rw [Bool.and_eq_true] at h8
    refine ⟨⟨ho.1, ho.2.1, ho.2.2, by show -32768 ≤ late.getD i 0 ∧ late.getD i 0 ≤ 32767; omega⟩, ?_, h8.2⟩
    unfold plainPu
    rw [Bool.and_eq_true]
    refine ⟨h8.1, ?_⟩
    unfold inB
    rw [Bool.and_eq_true, decide_eq_true_eq, decide_eq_true_eq]
    show 0 ≤ late.getD i 0 ∧ late.getD i 0 ≤ 1000
    omega
  refine ⟨?_, ?_, ?_, ?_⟩
  · intro j hj
    exact (key _ (List.getElem_mem hj)).1
  · rw [List.all_eq_true]; intro p hp; exact (key p hp).2.1
  · rw [List.all_eq_true]; intro p hp; exact (key p hp).2.2
  · have := mPuTo_len m.ins row late m.ins.length
    unfold mPu; omega
/-- The falls of a row, the ticks of the outputs, the outputs as bits. -/
noncomputable def mFa (m : Mc) (row : Nat) (late : List Int) : List Fa := runOf m.bd.ps (mPu m row late)
noncomputable def mTk (m : Mc) (row : Nat) (late : List Int) : List Int := m.outs.map (fun c => ((mFa m row late).getD (fnd c m.bd.ps).toNat default).t)
def bitsTo (ts : List Int) : Nat → Nat
  | 0 => 0
  | k + 1 => if 0 ≤ ts.getD k 0 then bitsTo ts k ||| 2 ^ k else bitsTo ts k
noncomputable def mOut (m : Mc) (row : Nat) (late : List Int) : Nat := bitsTo (mTk m row late) m.outs.length
theorem mTk_len (m : Mc) (row : Nat) (late : List Int) : (mTk m row late).length = m.outs.length := by unfold mTk; simp
theorem pow_mono2 {a b : Nat} (h : a ≤ b) : (2 : Nat) ^ a ≤ 2 ^ b := Nat.pow_le_pow_right (by omega) h
theorem bitsTo_lt (ts : List Int) (k : Nat) : bitsTo ts k < 2 ^ k := by
  induction k with
  | zero => show 0 < 1; omega
  | succ k ih =>
    have h1 : (2 : Nat) ^ k < 2 ^ (k + 1) := Nat.pow_lt_pow_right (by omega) (by omega)
    unfold bitsTo
    split
    · exact Nat.or_lt_two_pow (by omega) h1
    · omega
/-- The table of output i over the first R rows. -/
def tabTo (f : Nat → Nat) (i : Nat) : Nat → Nat
  | 0 => 0
  | r + 1 => if (f r).testBit i = true then tabTo f i r ||| 2 ^ r else tabTo f i r
theorem tabTo_lt (f : Nat → Nat) (i R : Nat) : tabTo f i R < 2 ^ R := by
  induction R with
  | zero => show 0 < 1; omega
  | succ k ih =>
    have h1 : (2 : Nat) ^ k < 2 ^ (k + 1) := Nat.pow_lt_pow_right (by omega) (by omega)
    unfold tabTo
    split
    · exact Nat.or_lt_two_pow (by omega) h1
    · omega
def zeros (n : Nat) : List Int := List.replicate n 0
theorem zeros_ok (n : Nat) : lateOk (zeros n) := by
  intro i
  have : (zeros n).getD i 0 = 0 := by
    unfold zeros
    rw [List.getD_eq_getElem?_getD, List.getElem?_replicate]
    split <;> rfl
  rw [this]; omega
def mRows (m : Mc) : Nat := 2 ^ m.ins.length
noncomputable def mTabs (m : Mc) : List Nat := (List.range m.outs.length).map (fun i => tabTo (fun r => mOut m r (zeros m.ins.length)) i (mRows m))
theorem mRows_le (m : Mc) (h : m.ins.length ≤ 6) : mRows m ≤ 64 := pow_mono2 (b := 6) h
end Go.Proofs.YtmeefmoblkiebaaGreat
/- Ports as values of the language: equality. -/
namespace Go.Proofs.YtmeefmoblkiebaaGreat
open Go.RowKit
set_option linter.unusedSimpArgs false
set_option maxHeartbeats 400000
set_option maxRecDepth 100000
theorem po_fields : (Tryz.prog.fieldsOf 127).toList.map (fun f => (f.type, f.offset, decide (f.name ≠ "_"))) = [(47, 0, true), (24, 2, true)] := by kernel_rfl
theorem part_ce0 (x y s : Int) (w : World) : (part 47 #[.int .i8 x, .int .i8 y, .int .i8 s] 0).run Tryz.prog w = .ok (.agg #[.int .i8 x, .int .i8 y]) w := by
  obtain ⟨h, -⟩ := ceTy
  obtain ⟨i, hi⟩ := info_of_underlying h.hk
  have hc : Tryz.prog.cellsOf 47 = 2 := by kernel_rfl
  simp [part, isAgg, run_underlying h.hk, run_sizeOf w hi, hc]
theorem equal_ce_at (n : Nat) (x y x' y' : Int) (w : World) : (Op.equalIn (n + 2) 47 (.agg #[.int .i8 x, .int .i8 y]) (.agg #[.int .i8 x', .int .i8 y'])).run Tryz.prog w = .ok (decide ((⟨x, y⟩ : Ce) = ⟨x', y'⟩)) w := by
  obtain ⟨h, -⟩ := ceTy
  obtain ⟨i, hi⟩ := info_of_underlying h.he
  have h0 := run_equalIn_array w (n + 1) #[.int .i8 x, .int .i8 y] #[.int .i8 x', .int .i8 y'] h.hk hi
  have e1 : ∀ a b : Int, (Op.equalIn (n + 1) h.e (.int .i8 a) (.int .i8 b)).run Tryz.prog w = .ok (a == b) w := fun a b => run_equalIn_int w n h.e .i8 .i8 a b h.he
  have e2 : ∀ (xs : Array Value) (off : Nat) (v : Value), xs[off]? = some v → (part h.e xs off).run Tryz.prog w = .ok v w := fun xs off v hx => run_part_plain w h.hp hx
  rw [h0, h.hs]
  have r2 : List.range 2 = [0, 1] := rfl
  rw [r2]
  have p0 := e2 #[.int .i8 x, .int .i8 y] 0 (.int .i8 x) rfl
  have p1 := e2 #[.int .i8 x, .int .i8 y] 1 (.int .i8 y) rfl
  have p2 := e2 #[.int .i8 x', .int .i8 y'] 0 (.int .i8 x') rfl
  have p3 := e2 #[.int .i8 x', .int .i8 y'] 1 (.int .i8 y') rfl
  simp only [Op.eqItems, Sem.run_bind, Nat.zero_mul, Nat.one_mul, p0, p2, e1, Result.andThen_ok]
  by_cases h1 : x = x'
  · subst h1
    simp only [beq_self_eq_true, Bool.not_true, Bool.false_eq_true, if_false, Sem.run_bind, p1, p3, e1, Result.andThen_ok]
    by_cases h2 : y = y' <;> simp [h2]
  · simp [h1]
theorem run_equal_po (f g : Po) (w : World) : (Op.equal 127 f.val g.val).run Tryz.prog w = .ok (decide (f = g)) w := by
  obtain ⟨x, y, s⟩ := f
  obtain ⟨x', y', s'⟩ := g
  have h := run_equalIn_agg (P := Tryz.prog) (w := w) 9999 127 #[.int .i8 x, .int .i8 y, .int .i8 s] #[.int .i8 x', .int .i8 y', .int .i8 s'] (by kernel_rfl) (by kernel_rfl)
  have hF := po_fields
  have e1 : ∀ a b a' b' : Int, (Op.equalIn 9999 47 (.agg #[.int .i8 a, .int .i8 b]) (.agg #[.int .i8 a', .int .i8 b'])).run Tryz.prog w = .ok (decide ((⟨a, b⟩ : Ce) = ⟨a', b'⟩)) w := fun a b a' b' => equal_ce_at 9997 a b a' b' w
  have e3 : ∀ a b : Int, (Op.equalIn 9999 24 (.int .i8 a) (.int .i8 b)).run Tryz.prog w = .ok (a == b) w := fun a b => run_equalIn_int w 9998 24 .i8 .i8 a b Tryz.underlying24
  have q2 : Tryz.prog.plainKey 24 = true := by kernel_rfl
  have e4 : ∀ (xs : Array Value) (off : Nat) (v : Value), xs[off]? = some v → (part 24 xs off).run Tryz.prog w = .ok v w := fun xs off v hx => run_part_plain w q2 hx
  generalize (Tryz.prog.fieldsOf 127).toList = fl at h hF
  rw [List.map_eq_cons_iff] at hF
  obtain ⟨f1, fl1, rfl, h1, hF⟩ := hF
  rw [List.map_eq_cons_iff] at hF
  obtain ⟨f2, fl2, rfl, h2, hF⟩ := hF
  rw [List.map_eq_nil_iff] at hF
  subst hF
  simp only [Prod.mk.injEq, decide_eq_true_eq] at h1 h2
  obtain ⟨t1, o1, n1⟩ := h1
  obtain ⟨t2, o2, n2⟩ := h2
  unfold Op.equal
  show (Op.equalIn (9999 + 1) 127 _ _).run Tryz.prog w = _
  rw [h]
  have r1 := fun x y s => part_ce0 x y s w
  have r2 : ∀ x y z : Int, (part 24 #[.int .i8 x, .int .i8 y, .int .i8 z] 2).run Tryz.prog w = .ok (.int .i8 z) w := fun x y z => e4 _ _ _ rfl
  simp only [Op.eqFields, if_pos n1, if_pos n2, t1, t2, o1, o2, Sem.run_bind, r1, Result.andThen_ok, e1]
  by_cases g1 : (⟨x, y⟩ : Ce) = ⟨x', y'⟩
  · simp only [g1, decide_true, Bool.not_true, Bool.false_eq_true, if_false, Sem.run_bind, r2, Result.andThen_ok, e3]
    simp only [Ce.mk.injEq] at g1
    by_cases g2 : s = s'
    · simp [g1, g2]
    · simp [g2]
  · simp only [Ce.mk.injEq] at g1
    have g3 : ¬ (x = x' ∧ y = y' ∧ s = s') := fun hh => g1 ⟨hh.1, hh.2.1⟩
    simp [g1, g3]
theorem run_eql_po (x y s x' y' s' : Int) (w : World) : (binOp .eql 127 (.agg #[.int .i8 x, .int .i8 y, .int .i8 s]) (.agg #[.int .i8 x', .int .i8 y', .int .i8 s'])).run Tryz.prog w = .ok (.bool (decide ((⟨x, y, s⟩ : Po) = ⟨x', y', s'⟩))) w := by
  have := run_equal_po ⟨x, y, s⟩ ⟨x', y', s'⟩ w
  simp only [binOp]
  simp [this]
end Go.Proofs.YtmeefmoblkiebaaGreat
