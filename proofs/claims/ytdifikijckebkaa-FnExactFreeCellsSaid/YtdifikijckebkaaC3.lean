/- Contracts of the loops over pieces in the program and in the reference: searches, sums. -/
import Derived.Test.YtdifikijckebkaaC2
namespace Go.Proofs.Ytdifikijckebkaa
open Go.RowKit
set_option linter.unusedVariables false
set_option linter.unusedSimpArgs false
set_option maxHeartbeats 400000

theorem indexFuncPc_any {B : Nat} (K : Nat) (caps : Array Value) (a : Option Addr) (cap : Nat) (ps : List Pc) (w : World) (hps : PcsAt B w a ps) (hok : PcsOk ps) (hB : B ≤ w.heap.size) (hn : ps.length ≤ 10000000) 
   (eg : ∀ (args : Array Value) (w : World), (callFunc K args).run Try.prog w = .ok (.enter K args) w) (q : Pc → Bool) (hf : ∀ (p : Pc) (w1 : World), p.ok → Below w.heap.size w w1 → Calls Try.prog K (#[p.val] ++ caps) w1 fun e w' => e = .returned (.bool (q p)) ∧ Below w1.heap.size w1 w'):
    Calls Try.prog 65 #[.slice a ps.length cap, .func (.func K) #[] caps] w fun e w' => e = .returned (.int .i64 ((ps.findIdx? q).elim (-1) (fun n => (n : Int)))) ∧ Below w.heap.size w w' := by
  go_enter Try.func65, Try.ntmps65
  go_wp2
  go_loopw [8] (fun i wr => ∃ k : Nat, k ≤ ps.length ∧ i = .int .i64 k ∧ (ps.take k).findIdx? q = none ∧ Below w.heap.size w wr) (fun i _ => ps.length - (intOf i).toNat)
  case atStart => exact ⟨0, by omega, rfl, by simp, Below.refl _ _⟩
  case round =>
    obtain ⟨k, hk, rfl, hfi, hb⟩ := hrel
    have Hfi := Lib.hid hfi; clear hfi
    by_cases hlt : k < ps.length
    · obtain ⟨b, off, rfl, hbl, hat⟩ := pcs_get (hps.below hb hB) hlt
      unfold PcAt at hat
      have Hf := Lib.hid hf; clear hf
      go_wp2_with (refine (Hf.out ps[k] _ (hok k hlt) hb).mono ?_; rintro e w' ⟨rfl, hb2⟩)
      · have h1 : q ps[k] = true := by assumption
        go_ret
        refine ⟨?_, (by repeat (first | with_reducible exact Below.refl _ _ | with_reducible assumption | with_reducible apply bl_drewN | with_reducible apply bl_drew | with_reducible apply bl_alloc | (with_reducible refine bl_set ?_ (by first | (simp; done) | (simp; omega)) _) | with_reducible refine bl_trans ?_ (by with_reducible assumption)))⟩
        have h2 : ps.findIdx? q = some k := by
          rw [List.findIdx?_eq_some_iff_getElem]
          refine ⟨hlt, h1, fun j hj => ?_⟩
          have h3 := Hfi.out
          rw [List.findIdx?_eq_none_iff] at h3
          have := h3 ps[j] (by rw [List.mem_take_iff_getElem]; exact ⟨j, by omega, rfl⟩)
          simpa using this
        rw [h2]; rfl
      · have h1 : q ps[k] = false := by assumption
        go_roundw
        case rel => exact ⟨k + 1, by omega, by go_num, by have := Hfi.out; rw [List.take_succ_eq_append_getElem hlt, List.findIdx?_append, this]; simp [h1], (by repeat (first | with_reducible exact Below.refl _ _ | with_reducible assumption | with_reducible apply bl_drewN | with_reducible apply bl_drew | with_reducible apply bl_alloc | (with_reducible refine bl_set ?_ (by first | (simp; done) | (simp; omega)) _) | with_reducible refine bl_trans ?_ (by with_reducible assumption)))⟩
        case measure => simp [intOf]; omega
    · go_wp2
      go_ret
      refine ⟨?_, (by repeat (first | with_reducible exact Below.refl _ _ | with_reducible assumption | with_reducible apply bl_drewN | with_reducible apply bl_drew | with_reducible apply bl_alloc | (with_reducible refine bl_set ?_ (by first | (simp; done) | (simp; omega)) _) | with_reducible refine bl_trans ?_ (by with_reducible assumption)))⟩
      have h2 := Hfi.out
      rw [List.take_of_length_le (by omega)] at h2
      rw [h2]; rfl
theorem containsFuncPc_any {B : Nat} (K : Nat) (caps : Array Value) (a : Option Addr) (cap : Nat) (ps : List Pc) (w : World) (hps : PcsAt B w a ps) (hok : PcsOk ps) (hB : B ≤ w.heap.size) (hn : ps.length ≤ 10000000) 
   (eg : ∀ (args : Array Value) (w : World), (callFunc K args).run Try.prog w = .ok (.enter K args) w) (q : Pc → Bool) (hf : ∀ (p : Pc) (w1 : World), p.ok → Below w.heap.size w w1 → Calls Try.prog K (#[p.val] ++ caps) w1 fun e w' => e = .returned (.bool (q p)) ∧ Below w1.heap.size w1 w'):
    Calls Try.prog 61 #[.slice a ps.length cap, .func (.func K) #[] caps] w fun e w' => e = .returned (.bool (ps.any q)) ∧ Below w.heap.size w w' := by
  have C := indexFuncPc_any K caps a cap ps w hps hok hB hn eg q hf
  have hr : ∃ r : Int, r = (ps.findIdx? q).elim (-1) (fun n => (n : Int)) ∧ (0 ≤ r ↔ ps.any q = true) := by
    refine ⟨_, rfl, ?_⟩
    cases hi : ps.findIdx? q with
    | none => rw [List.findIdx?_eq_none_iff] at hi; simpa using hi
    | some k =>
      rw [List.findIdx?_eq_some_iff_getElem] at hi
      obtain ⟨h1, h2, -⟩ := hi
      simp only [Option.elim]
      refine ⟨fun _ => List.any_eq_true.2 ⟨_, List.getElem_mem h1, h2⟩, fun _ => by omega⟩
  obtain ⟨r, hr1, hr2⟩ := hr
  rw [← hr1] at C
  clear hr1 hf
  have HC := Lib.hid C; clear C
  go_enter Try.func61, Try.ntmps61
  go_wp2_with (go_at_call 65; refine HC.out.mono ?_; rintro e w' ⟨rfl, hb⟩)
  go_ret
  exact ⟨ret_bool (by simp), hb⟩

/-- The code of pieces of a line. -/
def given (ps : List Pc) : Int := if ps.any (fun p => !vPc p) then 1 else if 120 < ps.length then 2 else 0

theorem l05Given_any {B : Nat} (a : Option Addr) (cap : Nat) (ps : List Pc) (w : World) (hps : PcsAt B w a ps) (hok : PcsOk ps) (hB : B ≤ w.heap.size) (hn : ps.length ≤ 10000000) :
    Calls Try.prog 31 #[.slice a ps.length cap] w fun e w' => e = .returned (.int .i64 (given ps)) ∧ Below w.heap.size w w' := by
  go_enter Try.func31, Try.ntmps31
  go_wp2
  go_loopw [3] (fun i wr => ∃ k : Nat, k ≤ ps.length ∧ i = .int .i64 k ∧ (ps.take k).any (fun p => !vPc p) = false ∧ Below w.heap.size w wr) (fun i _ => ps.length - (intOf i).toNat)
  case atStart => exact ⟨0, by omega, rfl, by simp, Below.refl _ _⟩
  case round =>
    obtain ⟨k, hk, rfl, hall, hb⟩ := hrel
    have Hall := Lib.hid hall; clear hall
    by_cases hlt : k < ps.length
    · obtain ⟨b, off, rfl, hbl, hat⟩ := pcs_get (hps.below hb hB) hlt
      go_wp2_with (go_at_call 53; refine (l01Piece_any ps[k] (hok k hlt) _ b _ hat).mono ?_; rintro e w' ⟨rfl, hb2⟩)
      · have h1 : (!vPc ps[k]) = true := by assumption
        go_ret
        have h2 : ps.any (fun p => !vPc p) = true := List.any_eq_true.2 ⟨ps[k], List.getElem_mem hlt, h1⟩
        exact ⟨ret_int (by simp [given, h2]), (by repeat (first | with_reducible exact Below.refl _ _ | with_reducible assumption | with_reducible apply bl_drewN | with_reducible apply bl_drew | with_reducible apply bl_alloc | (with_reducible refine bl_set ?_ (by first | (simp; done) | (simp; omega)) _) | with_reducible refine bl_trans ?_ (by with_reducible assumption)))⟩
      · have h1 : (!vPc ps[k]) = false := by assumption
        go_roundw
        case rel => exact ⟨k + 1, by omega, by go_num, by have := Hall.out; rw [List.take_succ_eq_append_getElem hlt, List.any_append, this]; simpa using h1, (by repeat (first | with_reducible exact Below.refl _ _ | with_reducible assumption | with_reducible apply bl_drewN | with_reducible apply bl_drew | with_reducible apply bl_alloc | (with_reducible refine bl_set ?_ (by first | (simp; done) | (simp; omega)) _) | with_reducible refine bl_trans ?_ (by with_reducible assumption)))⟩
        case measure => simp [intOf]; omega
    · go_wp2
      all_goals
        go_ret
        have h2 := Hall.out
        rw [List.take_of_length_le (by omega)] at h2
        exact ⟨ret_int (by unfold given; rw [h2]; simp; omega), (by repeat (first | with_reducible exact Below.refl _ _ | with_reducible assumption | with_reducible apply bl_drewN | with_reducible apply bl_drew | with_reducible apply bl_alloc | (with_reducible refine bl_set ?_ (by first | (simp; done) | (simp; omega)) _) | with_reducible refine bl_trans ?_ (by with_reducible assumption)))⟩
theorem eg_piecesOk1 (args : Array Value) (w : World) : (callFunc 62 args).run Try.prog w = .ok (.enter 62 args) w := by kernel_rfl
theorem piecesOk1_any (p : Pc) (hp : p.ok) (w : World) :
    Calls Try.prog 62 #[p.val] w fun e w' => e = .returned (.bool (!vPc p)) ∧ Below w.heap.size w w' := by
  go_enter Try.func62, Try.ntmps62
  go_wp2_with (go_at_call 57; refine (validPiece_any p hp _).mono ?_; rintro e w' ⟨rfl, hb⟩)
  go_ret
  exact ⟨rfl, (by repeat (first | with_reducible exact Below.refl _ _ | with_reducible assumption | with_reducible apply bl_drewN | with_reducible apply bl_drew | with_reducible apply bl_alloc | (with_reducible refine bl_set ?_ (by first | (simp; done) | (simp; omega)) _) | with_reducible refine bl_trans ?_ (by with_reducible assumption)))⟩
theorem piecesOk_any {B : Nat} (a : Option Addr) (cap : Nat) (ps : List Pc) (w : World) (hps : PcsAt B w a ps) (hok : PcsOk ps) (hB : B ≤ w.heap.size) (hn : ps.length ≤ 10000000) :
    Calls Try.prog 45 #[.slice a ps.length cap] w fun e w' => e = .returned (.int .i64 (given ps)) ∧ Below w.heap.size w w' := by
  have C := fun w1 (hb : Below w.heap.size w w1) => containsFuncPc_any 62 #[] a cap ps w1 (hps.below hb hB) hok (Nat.le_trans hB hb.size) hn eg_piecesOk1 (fun p => !vPc p) (fun p w1 hp _ => piecesOk1_any p hp w1)
  have HC := Lib.hid C; clear C
  unfold given
  by_cases h1 : ps.any (fun p => !vPc p) = true
  · go_enter Try.func45, Try.ntmps45
    go_wp2_with (go_at_call 61; refine (HC.out _ (by repeat (first | with_reducible exact Below.refl _ _ | with_reducible assumption | with_reducible apply bl_drewN | with_reducible apply bl_drew | with_reducible apply bl_alloc | (with_reducible refine bl_set ?_ (by first | (simp; done) | (simp; omega)) _) | with_reducible refine bl_trans ?_ (by with_reducible assumption)))).mono ?_; rintro e w' ⟨rfl, hb⟩)
    all_goals
      go_ret
      exact ⟨ret_int (by simp [h1]), (by repeat (first | with_reducible exact Below.refl _ _ | with_reducible assumption | with_reducible apply bl_drewN | with_reducible apply bl_drew | with_reducible apply bl_alloc | (with_reducible refine bl_set ?_ (by first | (simp; done) | (simp; omega)) _) | with_reducible refine bl_trans ?_ (by with_reducible assumption)))⟩
  · have h1' : ps.any (fun p => !vPc p) = false := by simpa using h1
    go_enter Try.func45, Try.ntmps45
    go_wp2_with (go_at_call 61; refine (HC.out _ (by repeat (first | with_reducible exact Below.refl _ _ | with_reducible assumption | with_reducible apply bl_drewN | with_reducible apply bl_drew | with_reducible apply bl_alloc | (with_reducible refine bl_set ?_ (by first | (simp; done) | (simp; omega)) _) | with_reducible refine bl_trans ?_ (by with_reducible assumption)))).mono ?_; rintro e w' ⟨rfl, hb⟩)
    all_goals
      go_ret
      exact ⟨ret_int (by simp_all), (by repeat (first | with_reducible exact Below.refl _ _ | with_reducible assumption | with_reducible apply bl_drewN | with_reducible apply bl_drew | with_reducible apply bl_alloc | (with_reducible refine bl_set ?_ (by first | (simp; done) | (simp; omega)) _) | with_reducible refine bl_trans ?_ (by with_reducible assumption)))⟩

def sumBy (f : Pc → Int) (ps : List Pc) : Int := (ps.map f).sum
theorem sumBy_snoc (f : Pc → Int) (ps : List Pc) (k : Nat) (h : k < ps.length) : sumBy f (ps.take (k + 1)) = sumBy f (ps.take k) + f ps[k] := by
  rw [List.take_succ_eq_append_getElem h, sumBy, sumBy, List.map_append, List.sum_append]; simp
theorem sumBy_bd (f : Pc → Int) (h : ∀ p, p.ok → -128 ≤ f p ∧ f p ≤ 127) : ∀ (ps : List Pc), PcsOk ps → -128 * ps.length ≤ sumBy f ps ∧ sumBy f ps ≤ 127 * ps.length := by
  intro ps
  induction ps with
  | nil => intro _; simp [sumBy]
  | cons p ps ih =>
    intro ho
    have h1 := ih (fun k hk => by have := ho (k + 1) (by simpa using hk); simpa using this)
    have h2 := h p (by have := ho 0 (by simp); simpa using this)
    simp only [sumBy, List.map_cons, List.sum_cons, List.length_cons] at h1 ⊢
    omega
theorem PcsOk.take {ps : List Pc} (h : PcsOk ps) (k : Nat) : PcsOk (ps.take k) := by
  intro j hj
  rw [List.getElem_take]
  exact h j (by rw [List.length_take] at hj; omega)

/-- What summed gives. -/
def summedV (f : Pc → Int) (ps : List Pc) : Int := if given ps = 0 then sumBy f ps else 0

theorem summed_any {B : Nat} (K : Nat) (a : Option Addr) (cap : Nat) (ps : List Pc) (w : World) (hps : PcsAt B w a ps) (hok : PcsOk ps) (hB : B ≤ w.heap.size) (hn : ps.length ≤ 10000000)
   (eg : ∀ (args : Array Value) (w : World), (callFunc K args).run Try.prog w = .ok (.enter K args) w) (f : Pc → Int) (hfb : ∀ p, p.ok → -128 ≤ f p ∧ f p ≤ 127) (hf : ∀ (p : Pc) (w1 : World), p.ok → Calls Try.prog K #[p.val] w1 fun e w' => e = .returned (.int .i64 (f p)) ∧ Below w1.heap.size w1 w') :
    Calls Try.prog 33 #[.slice a ps.length cap, .func (.func K) #[] #[]] w fun e w' => e = .returned (.tuple #[.int .i64 (summedV f ps), .int .i64 (given ps)]) ∧ Below w.heap.size w w' := by
  have Hf := Lib.hid hf; clear hf
  have Hfb := Lib.hid (fun k => sumBy_bd f hfb (ps.take k) (hok.take k)); clear hfb
  unfold summedV
  by_cases hg : given ps = 0
  · have hg' : (given ps != 0) = false := by simp [hg]
    have Hg := Lib.hid hg; clear hg
    go_enter Try.func33, Try.ntmps33
    go_wp2_with (go_at_call 45; refine (piecesOk_any a cap ps _ hps hok hB hn).mono ?_; rintro e w' ⟨rfl, hb⟩)
    go_loopw [7, 17] (fun s i wr => ∃ k : Nat, k ≤ ps.length ∧ i = .int .i64 k ∧ s = .int .i64 (sumBy f (ps.take k)) ∧ Below w.heap.size w wr) (fun _ i _ => ps.length - (intOf i).toNat)
    case atStart => exact ⟨0, by omega, rfl, by simp [sumBy], hb⟩
    case round =>
      clear hb
      obtain ⟨k, hk, rfl, rfl, hb⟩ := hrel
      obtain ⟨s1, s2⟩ := Hfb.out k
      have hl : (ps.take k).length ≤ k := List.length_take_le _ _
      by_cases hlt : k < ps.length
      · obtain ⟨b, off, rfl, hbl, hat⟩ := pcs_get (hps.below hb hB) hlt
        obtain ⟨t1, t2⟩ := Hfb.out (k + 1)
        have hl2 : (ps.take (k + 1)).length ≤ k + 1 := List.length_take_le _ _
        rw [sumBy_snoc f ps k hlt] at t1 t2
        unfold PcAt at hat
        go_wp2_with ((refine (Hf.out ps[k] _ (hok k hlt)).mono ?_); rintro e w' ⟨rfl, hb2⟩)
        go_roundw
        case rel => exact ⟨k + 1, by omega, by go_num, by rw [sumBy_snoc f ps k hlt], (by repeat (first | with_reducible exact Below.refl _ _ | with_reducible assumption | with_reducible apply bl_drewN | with_reducible apply bl_drew | with_reducible apply bl_alloc | (with_reducible refine bl_set ?_ (by first | (simp; done) | (simp; omega)) _) | with_reducible refine bl_trans ?_ (by with_reducible assumption)))⟩
        case measure => simp [intOf]; omega
      · go_wp2
        go_ret2
        exact ⟨by rw [List.take_of_length_le (by omega)]; (try rw [Hg.out]); rfl, (by repeat (first | with_reducible exact Below.refl _ _ | with_reducible assumption | with_reducible apply bl_drewN | with_reducible apply bl_drew | with_reducible apply bl_alloc | (with_reducible refine bl_set ?_ (by first | (simp; done) | (simp; omega)) _) | with_reducible refine bl_trans ?_ (by with_reducible assumption)))⟩
  · have hg' : (given ps != 0) = true := by simp [hg]
    have Hg := Lib.hid hg; clear hg
    go_enter Try.func33, Try.ntmps33
    go_wp2_with (go_at_call 45; refine (piecesOk_any a cap ps _ hps hok hB hn).mono ?_; rintro e w' ⟨rfl, hb⟩)
    go_ret2
    exact ⟨by (try rw [if_neg Hg.out]); rfl, (by repeat (first | with_reducible exact Below.refl _ _ | with_reducible assumption | with_reducible apply bl_drewN | with_reducible apply bl_drew | with_reducible apply bl_alloc | (with_reducible refine bl_set ?_ (by first | (simp; done) | (simp; omega)) _) | with_reducible refine bl_trans ?_ (by with_reducible assumption)))⟩
theorem eg_DelayOfLine1 (args : Array Value) (w : World) : (callFunc 34 args).run Try.prog w = .ok (.enter 34 args) w := by kernel_rfl
theorem delayOfLine1_any (p : Pc) (hp : p.ok) (w : World) :
    Calls Try.prog 34 #[p.val] w fun e w' => e = .returned (.int .i64 p.d) ∧ Below w.heap.size w w' := by
  obtain ⟨-, -, -, ⟨d1, d2⟩⟩ := hp
  go_enter Try.func34, Try.ntmps34
  go_wp2
  go_ret
  exact ⟨rfl, (by repeat (first | with_reducible exact Below.refl _ _ | with_reducible assumption | with_reducible apply bl_drewN | with_reducible apply bl_drew | with_reducible apply bl_alloc | (with_reducible refine bl_set ?_ (by first | (simp; done) | (simp; omega)) _) | with_reducible refine bl_trans ?_ (by with_reducible assumption)))⟩
theorem delayOfLine_any {B : Nat} (a : Option Addr) (cap : Nat) (ps : List Pc) (w : World) (hps : PcsAt B w a ps) (hok : PcsOk ps) (hB : B ≤ w.heap.size) (hn : ps.length ≤ 10000000) :
    Calls Try.prog 11 #[.slice a ps.length cap] w fun e w' => e = .returned (.tuple #[.int .i64 (summedV (·.d) ps), .int .i64 (given ps)]) ∧ Below w.heap.size w w' := by
  have C := Lib.hid (summed_any 34 a cap ps w hps hok hB hn eg_DelayOfLine1 (·.d) (fun p hp => ⟨hp.2.2.2.1, hp.2.2.2.2⟩) (fun p w1 hp => delayOfLine1_any p hp w1))
  go_enter Try.func11, Try.ntmps11
  go_wp2_with (go_at_call 33; refine C.out.mono ?_; rintro e w' ⟨rfl, hb⟩)
  go_ret2
  exact ⟨rfl, (by repeat (first | with_reducible exact Below.refl _ _ | with_reducible assumption | with_reducible apply bl_drewN | with_reducible apply bl_drew | with_reducible apply bl_alloc | (with_reducible refine bl_set ?_ (by first | (simp; done) | (simp; omega)) _) | with_reducible refine bl_trans ?_ (by with_reducible assumption)))⟩
theorem specDelayOfLine_any {B : Nat} (a : Option Addr) (cap : Nat) (ps : List Pc) (w : World) (hps : PcsAt B w a ps) (hok : PcsOk ps) (hB : B ≤ w.heap.size) (hn : ps.length ≤ 10000000) :
    Calls Try.prog 9 #[.slice a ps.length cap] w fun e w' => e = .returned (.tuple #[.int .i64 (summedV (·.d) ps), .int .i64 (given ps)]) ∧ Below w.heap.size w w' := by
  have Hfb := Lib.hid (fun k => sumBy_bd (·.d) (fun p hp => ⟨hp.2.2.2.1, hp.2.2.2.2⟩) (ps.take k) (hok.take k))
  unfold summedV
  by_cases hg : given ps = 0
  · have hg' : (given ps != 0) = false := by simp [hg]
    have Hg := Lib.hid hg; clear hg
    go_enter Try.func9, Try.ntmps9
    go_wp2_with (go_at_call 31; refine (l05Given_any a cap ps _ hps hok hB hn).mono ?_; rintro e w' ⟨rfl, hb⟩)
    go_loopw [5, 6] (fun s i wr => ∃ k : Nat, k ≤ ps.length ∧ i = .int .i64 k ∧ s = .int .i64 (sumBy (·.d) (ps.take k)) ∧ Below w.heap.size w wr) (fun _ i _ => ps.length - (intOf i).toNat)
    case atStart => exact ⟨0, by omega, rfl, by simp [sumBy], hb⟩
    case round =>
      clear hb
      obtain ⟨k, hk, rfl, rfl, hb⟩ := hrel
      obtain ⟨s1, s2⟩ := Hfb.out k
      have hl : (ps.take k).length ≤ k := List.length_take_le _ _
      by_cases hlt : k < ps.length
      · obtain ⟨b, off, rfl, hbl, hat⟩ := pcs_get (hps.below hb hB) hlt
        obtain ⟨-, -, -, ⟨d1, d2⟩⟩ := hok k hlt
        unfold PcAt at hat
        go_wp2
        go_roundw
        case rel => exact ⟨k + 1, by omega, by go_num, by rw [sumBy_snoc _ ps k hlt], (by repeat (first | with_reducible exact Below.refl _ _ | with_reducible assumption | with_reducible apply bl_drewN | with_reducible apply bl_drew | with_reducible apply bl_alloc | (with_reducible refine bl_set ?_ (by first | (simp; done) | (simp; omega)) _) | with_reducible refine bl_trans ?_ (by with_reducible assumption)))⟩
        case measure => simp [intOf]; omega
      · go_wp2
        go_ret2
        exact ⟨by rw [List.take_of_length_le (by omega)]; (try rw [Hg.out]); rfl, (by repeat (first | with_reducible exact Below.refl _ _ | with_reducible assumption | with_reducible apply bl_drewN | with_reducible apply bl_drew | with_reducible apply bl_alloc | (with_reducible refine bl_set ?_ (by first | (simp; done) | (simp; omega)) _) | with_reducible refine bl_trans ?_ (by with_reducible assumption)))⟩
  · have hg' : (given ps != 0) = true := by simp [hg]
    have Hg := Lib.hid hg; clear hg
    go_enter Try.func9, Try.ntmps9
    go_wp2_with (go_at_call 31; refine (l05Given_any a cap ps _ hps hok hB hn).mono ?_; rintro e w' ⟨rfl, hb⟩)
    go_ret2
    exact ⟨by (try rw [if_neg Hg.out]); rfl, (by repeat (first | with_reducible exact Below.refl _ _ | with_reducible assumption | with_reducible apply bl_drewN | with_reducible apply bl_drew | with_reducible apply bl_alloc | (with_reducible refine bl_set ?_ (by first | (simp; done) | (simp; omega)) _) | with_reducible refine bl_trans ?_ (by with_reducible assumption)))⟩
end Go.Proofs.Ytdifikijckebkaa
