/- A row of one's own that is cut at its front ('todo = todo[1:]'), and what is appended to it. -/
import Derived.Test.YtoldmgpdcenmhaaDel
namespace Go.Proofs.Ytoldmgpdcenmhaa
open Go.RowKit
set_option linter.unusedVariables false
set_option linter.unusedSimpArgs false
set_option maxHeartbeats 400000
set_option maxRecDepth 100000
theorem sl_newAt (w : World) (cs : Array Value) (T : TypeId) (g : Nat) (hg : g = w.heap.size) : SlAt (g + 1) (w.alloc (.cells cs T)) (some ⟨g, 0, none⟩) cs.toList := by
  subst hg
  exact sl_new w cs T
def OffRow (w : World) (base : Nat) (e : TypeId) (size : Nat) (v : Value) (n : Nat) (xs : List Value) (g : Nat) : Prop :=
  xs.length = n * size ∧ base ≤ g ∧ ∃ off cap cur, v = .slice (some ⟨g, off, none⟩) n cap ∧ w.heap[g]? = some (.cells cur e (0, 0)) ∧ n ≤ cap ∧ cap ≤ maxLen ∧ off + cap * size ≤ cur.size ∧ (cur.toList.drop off).take (n * size) = xs
theorem OffRow.lt {w : World} {base : Nat} {e : TypeId} {size : Nat} {v : Value} {n : Nat} {xs : List Value} {g : Nat} (h : OffRow w base e size v n xs g) : g < w.heap.size := by
  obtain ⟨-, -, off, cap, cur, -, h1, -⟩ := h
  exact (Array.getElem?_eq_some_iff.1 h1).1
theorem OffRow.below {w w' : World} {base B : Nat} {e : TypeId} {size : Nat} {v : Value} {n : Nat} {xs : List Value} {g : Nat} (h : OffRow w base e size v n xs g) (hb : Below B w w') (hB : w.heap.size ≤ B) : OffRow w' base e size v n xs g := by
  have hl := h.lt
  obtain ⟨h1, h2, off, cap, cur, h3, h4, h5⟩ := h
  exact ⟨h1, h2, off, cap, cur, h3, by rw [hb.block g (by omega)]; exact h4, h5⟩
theorem OffRow.kept {w w' : World} {base : Nat} {e : TypeId} {size : Nat} {v : Value} {n : Nat} {xs : List Value} {g : Nat} {row : Option Nat} (h : OffRow w base e size v n xs g) (hg : w.grownBy w' row) (hne : some g ≠ row) : OffRow w' base e size v n xs g := by
  have hl := h.lt
  obtain ⟨h1, h2, off, cap, cur, h3, h4, h5⟩ := h
  exact ⟨h1, h2, off, cap, cur, h3, by rw [hg.block g hl hne]; exact h4, h5⟩
theorem OffRow.sl {w : World} {base : Nat} {e : TypeId} {size : Nat} {v : Value} {n : Nat} {xs : List Value} {g : Nat} (h : OffRow w base e size v n xs g) : ∃ off cap, v = .slice (some ⟨g, off, none⟩) n cap ∧ SlAt w.heap.size w (some ⟨g, off, none⟩) xs ∧ n ≤ cap ∧ cap ≤ maxLen := by
  have hl := h.lt
  obtain ⟨h1, h2, off, cap, cur, h3, h4, h5, h6, h7, h8⟩ := h
  refine ⟨off, cap, h3, ?_, h5, h6⟩
  intro j hj
  refine ⟨g, off, rfl, hl, ?_⟩
  rw [cell_of_row w g (off + j) cur e (0, 0) h4]
  have h9 : xs[j]? = some xs[j] := List.getElem?_eq_getElem hj
  rw [← h9]
  conv => rhs; rw [← h8]
  rw [List.getElem?_take, if_pos (by omega), List.getElem?_drop]
  simp
theorem OffRow.cut {w : World} {base : Nat} {e : TypeId} {size : Nat} {n : Nat} {A xs : List Value} {g off cap : Nat} (h : OffRow w base e size (.slice (some ⟨g, off, none⟩) (n + 1) (cap + 1)) (n + 1) (A ++ xs) g) (hA : A.length = size) : OffRow w base e size (.slice (some ⟨g, off + size, none⟩) n cap) n xs g := by
  obtain ⟨h1, h2, off', cap', cur, h3, h4, h5, h6, h7, h8⟩ := h
  cases h3
  rw [List.length_append, hA, Nat.succ_mul] at h1
  refine ⟨by omega, h2, _, _, cur, rfl, h4, by omega, by omega, by rw [Nat.succ_mul] at h7; omega, ?_⟩
  have h9 : ((cur.toList.drop off).take ((n + 1) * size)).drop size = xs := by rw [h8, ← hA, List.drop_left]
  rw [List.drop_take, List.drop_drop] at h9
  rw [← h9]
  congr 1
  rw [Nat.succ_mul]; omega
theorem OffRow.none_left {w : World} {base : Nat} {e : TypeId} {size : Nat} {n : Nat} {xs : List Value} {g off cap : Nat} (h : OffRow w base e size (.slice (some ⟨g, off, none⟩) n cap) n xs g) : OffRow w base e size (.slice (some ⟨g, off, none⟩) 0 0) 0 [] g := by
  obtain ⟨h1, h2, off', cap', cur, h3, h4, h5, h6, h7, h8⟩ := h
  cases h3
  exact ⟨by simp, h2, _, _, cur, rfl, h4, Nat.le_refl _, by omega, by omega, by simp⟩
/-- The rest of a row. -/
theorem OffRow.tail {w : World} {base : Nat} {e : TypeId} {n : Nat} {A xs : List Value} {g off cap : Nat} (h : OffRow w base e 2 (.slice (some ⟨g, off, none⟩) n cap) n (A ++ xs) g) (hA : A.length = 2) (hn : 0 < n) (hc : n ≤ cap) :
    OffRow w base e 2 (.slice (if cap = 1 then some ⟨g, off, none⟩ else some ⟨g, off + 2, none⟩) (n - 1) (cap - 1)) (n - 1) xs g := by
  by_cases h1 : cap = 1
  · rw [if_pos h1]
    have hn1 : n = 1 := by omega
    subst h1 hn1
    have hx : xs = [] := by
      have := h.1
      rw [List.length_append, hA] at this
      exact List.eq_nil_of_length_eq_zero (by omega)
    subst hx
    exact h.none_left
  · rw [if_neg h1]
    obtain ⟨n', rfl⟩ : ∃ n', n = n' + 1 := ⟨n - 1, by omega⟩
    obtain ⟨c', rfl⟩ : ∃ c', cap = c' + 1 := ⟨cap - 1, by omega⟩
    exact h.cut hA
theorem own_off {w : World} {base : Nat} {e : TypeId} {size g n cap : Nat} {xs : List Value} (h : w.ownsRow base e size (.slice (some ⟨g, 0, none⟩) n cap) n xs) : OffRow w base e size (.slice (some ⟨g, 0, none⟩) n cap) n xs g := by
  obtain ⟨h0, h1⟩ := h
  rcases h1 with ⟨h', _⟩ | ⟨g', cap', cur, h', hb, hg, hnc, hcm, hcs, htake⟩
  · simp at h'
  · simp only [Value.slice.injEq, Option.some.injEq, Addr.mk.injEq, and_true, true_and] at h'
    obtain ⟨rfl, rfl⟩ := h'
    exact ⟨h0, hb, 0, cap, cur, rfl, hg, hnc, hcm, by omega, by simpa using htake⟩
section
variable {P : Program} (w : World)
theorem run_append_room_off (t ty e : TypeId) (i : TypeInfo) (ht : P.underlying t = some (.slice e)) (hi : P.info? e = some i)
    (g off sLen sCap : Nat) (cur : Array Value) (hg : w.heap[g]? = some (.cells cur e (0, 0)))
    (a : Addr) (m c : Nat) (news : List Value) (hl : news.length = m * i.size) (hnews : ∀ j u, news[j]? = some u → w.cell? (a.add j) = some u) (h1 : ∀ u ∈ news, u.oneCell' = true)
    (hroom : sLen + m ≤ sCap) (hfit : off + sLen * i.size + news.length ≤ cur.size) :
    (Builtin.append_ #[t, t] ty #[.slice (some ⟨g, off, none⟩) sLen sCap, .slice (some a) m c]).run P w =
      .ok (.slice (some ⟨g, off, none⟩) (sLen + m) sCap) (w.setRow g (cur.toList.take (off + sLen * i.size) ++ news ++ cur.toList.drop (off + sLen * i.size + news.length)).toArray) := by
  have hf := run_firstCells_some (P := P) w i.size m a m c news hl hnews
  have hst := run_storeCells_at P g (off + sLen * i.size) e news 0 cur w hg (by simpa using hfit) h1
  simp only [Nat.add_zero] at hst
  simp [Builtin.append_, run_underlying ht, sizeOf, typeInfo, hi, Builtin.lenOf, hroom, hf, Addr.add_lit, hst]
theorem run_append_off (base : Nat) (t ty e : TypeId) (i : TypeInfo) (z : Value) (size bytes : Nat) (ht : P.underlying t = some (.slice e)) (hi : P.info? e = some i) (hz : i.zero = some z)
    (hsize : i.size = size) (hby : i.bytes = bytes) (hzs : z.cells.size = size) (hsz : 0 < size)
    (v : Value) (n : Nat) (xs : List Value) (g : Nat) (hown : OffRow w base e size v n xs g)
    (a : Addr) (m c : Nat) (news : List Value) (hl : news.length = m * size) (hnews : ∀ j u, news[j]? = some u → w.cell? (a.add j) = some u) (h1 : ∀ u ∈ news, u.oneCell' = true)
    (h63 : n + m ≤ maxLen) (hbytes : (n + m) * bytes ≤ 140737488355328) (hbase : base ≤ w.heap.size) :
    ∃ v' w' g', (Builtin.append_ #[t, t] ty #[v, .slice (some a) m c]).run P w = .ok v' w' ∧ OffRow w' base e size v' (n + m) (xs ++ news) g' ∧ w.grownBy w' (some g) := by
  subst hsize
  subst hby
  have hsmall : n + m ≤ 9223372036854775807 := by simp only [maxLen] at h63; omega
  obtain ⟨h0, hb, off, cap, cur, rfl, hg, hnc, hcm, hcs, htake⟩ := id hown
  have hlen : (xs ++ news).length = (n + m) * i.size := by rw [List.length_append, h0, hl, Nat.add_mul]
  by_cases hroom : n + m ≤ cap
  · have hle : (n + m) * i.size ≤ cap * i.size := Nat.mul_le_mul_right _ hroom
    rw [Nat.add_mul] at hle
    have hfit : off + n * i.size + news.length ≤ cur.size := by rw [hl]; omega
    have hr := run_append_room_off (P := P) w t ty e i ht hi g off n cap cur hg a m c news hl hnews h1 hroom hfit
    refine ⟨_, _, g, hr, ⟨hlen, hb, off, cap, _, rfl, setRow_heap w g cur _ e _ hg, hroom, hcm, ?_, ?_⟩, ⟨rfl, rfl, rfl, by simp, fun k _ hk => setRow_other w g k _ (fun e => hk (by rw [e]))⟩⟩
    · simp only [List.size_toArray, List.length_append, List.length_take, List.length_drop, Array.length_toList]
      omega
    · rw [← htake, ← hlen, List.length_append, h0]
      have e1 : (cur.toList.take (off + n * i.size)).drop off = (cur.toList.drop off).take (n * i.size) := by rw [List.drop_take]; congr 1; omega
      have l1 : (cur.toList.take (off + n * i.size)).length = off + n * i.size := by rw [List.length_take, Array.length_toList]; omega
      rw [List.append_assoc, List.drop_append_of_le_length (by rw [l1]; omega), e1, ← List.append_assoc]
      have l2 : ((cur.toList.drop off).take (n * i.size) ++ news).length = n * i.size + news.length := by rw [htake, List.length_append, h0]
      rw [← l2, List.take_left]
  · have holds : ∀ j u, xs[j]? = some u → w.cell? ((⟨g, off, none⟩ : Addr).add j) = some u := by
      intro j u hu
      have hj : j < xs.length := (List.getElem?_eq_some_iff.1 hu).1
      rw [Addr.add_lit, cell_of_row w g (off + j) cur e (0, 0) hg]
      rw [← hu, ← htake, List.getElem?_take, if_pos (by omega), List.getElem?_drop]
      simp
    have hr := run_append_grow (P := P) w t ty e i z ht hi hz ⟨g, off, none⟩ n cap xs h0 holds a m c news hl hnews (by omega) (by omega) (growslice_fits (by omega) hbytes)
    have hge := grownCap_ge w (n + m) cap e
    have hcm2 : grownCap w (n + m) cap e ≤ maxLen := grownCap_le_maxLen w (n + m) cap e h63
    refine ⟨_, _, w.heap.size, hr, ⟨hlen, hbase, 0, _, _, rfl, heap_alloc_new w.drew _, hge, hcm2, ?_, ?_⟩, ⟨rfl, rfl, rfl, by simp, fun k hk _ => Below.heap_alloc w.drew _ k hk⟩⟩
    · simp only [Array.size_append, List.size_toArray, size_zeroCells, hzs, h0, hl, ← Nat.add_mul, Nat.zero_add]
      refine Nat.mul_le_mul_right _ ?_
      omega
    · simp only [Array.toList_append, List.append_assoc, List.drop_zero]
      rw [← List.append_assoc, ← hlen]
      exact List.take_left
end
theorem wpList_append_off {P : Program} (w : World) {ops : Array Oper} {rest : List Oper} {o : Oper} {a : Act} {Q : Exit → Act → World → Prop} (hgd : o.guard = none) (s x : Operand) (t : TypeId)
    (ho : o.op = .call { callee := .builtin .append, args := #[s, x], argTypes := #[t, t] })
    (base : Nat) (e : TypeId) (i : TypeInfo) (z : Value) (size bytes : Nat) (ht : P.underlying t = some (.slice e)) (hi : P.info? e = some i) (hz : i.zero = some z)
    (hsize : i.size = size) (hby : i.bytes = bytes) (hzs : z.cells.size = size) (hsz : 0 < size)
    (v : Value) (n : Nat) (xs : List Value) (g : Nat) (hs : a.eval s = v) (hown : OffRow w base e size v n xs g)
    (ad : Addr) (m c : Nat) (news : List Value) (hx : a.eval x = .slice (some ad) m c) {B : Nat} (hsl : SlAt B w (some ad) news) (hl : news.length = m * size) (h1 : ∀ u ∈ news, u.oneCell' = true)
    (h63 : n + m ≤ maxLen) (hbytes : (n + m) * bytes ≤ 140737488355328) (hbase : base ≤ w.heap.size)
    (h : ∀ v' w' g', OffRow w' base e size v' (n + m) (xs ++ news) g' → w.grownBy w' (some g) → wpList P ops Q rest (a.put o.dst v') w') : wpList P ops Q (o :: rest) a w := by
  refine wpList_plain hgd fun K hK => ?_
  obtain ⟨v', w', g', hr, r1, r2⟩ := run_append_off (P := P) w base t o.type e i z size bytes ht hi hz hsize hby hzs hsz v n xs g hown ad m c news hl (by
    intro j u hu
    have hj : j < news.length := (List.getElem?_eq_some_iff.1 hu).1
    obtain ⟨b, off, h0, -, h3⟩ := hsl j hj
    cases h0
    rw [List.getElem?_eq_getElem hj] at hu
    cases hu
    have : (⟨b, off, none⟩ : Addr).add j = ⟨b, off + j, none⟩ := by unfold Addr.add; split <;> simp_all
    rw [this]; exact h3) h1 h63 hbytes hbase
  unfold Oper.wp execOp
  simp only [ho, resolve, invoke, builtin, Sem.run_bind, Sem.run_pure, Result.andThen_ok, List.map_toArray, List.map_cons, List.map_nil, hs, hx, hr]
  exact hK _ _ (h v' w' g' r1 r2)
/-- What is appended first to an empty slice lies in a new block. -/
theorem wpList_append_first {P : Program} (w : World) {ops : Array Oper} {rest : List Oper} {o : Oper} {a : Act} {Q : Exit → Act → World → Prop} (hgd : o.guard = none) (s x : Operand) (t : TypeId)
    (ho : o.op = .call { callee := .builtin .append, args := #[s, x], argTypes := #[t, t] })
    (e : TypeId) (i : TypeInfo) (z : Value) (size bytes : Nat) (ht : P.underlying t = some (.slice e)) (hi : P.info? e = some i) (hz : i.zero = some z)
    (hsize : i.size = size) (hby : i.bytes = bytes) (hzs : z.cells.size = size)
    (b : Addr) (hs : a.eval s = .slice (some b) 0 0)
    (ad : Addr) (m c : Nat) (news : List Value) (hx : a.eval x = .slice (some ad) m c) {B : Nat} (hsl : SlAt B w (some ad) news) (hl : news.length = m * size)
    (hm : 0 < m) (h63 : m ≤ maxLen) (hbytes : m * bytes ≤ 140737488355328)
    (h : ∀ v' w', w'.ownsRow w.heap.size e size v' m news → w.grownBy w' none → wpList P ops Q rest (a.put o.dst v') w') : wpList P ops Q (o :: rest) a w := by
  subst hsize
  subst hby
  have hsmall : m ≤ 9223372036854775807 := by simp only [maxLen] at h63; omega
  refine wpList_plain hgd fun K hK => ?_
  have hr := run_append_grow (P := P) w t o.type e i z ht hi hz b 0 0 [] (by simp) (by simp) ad m c news hl (by
    intro j u hu
    have hj : j < news.length := (List.getElem?_eq_some_iff.1 hu).1
    obtain ⟨b, off, h0, -, h3⟩ := hsl j hj
    cases h0
    rw [List.getElem?_eq_getElem hj] at hu
    cases hu
    have : (⟨b, off, none⟩ : Addr).add j = ⟨b, off + j, none⟩ := by unfold Addr.add; split <;> simp_all
    rw [this]; exact h3) (by omega) (by omega) (growslice_fits (by omega) (by rw [Nat.zero_add]; exact hbytes))
  have hge := grownCap_ge w (0 + m) 0 e
  have hcm2 : grownCap w (0 + m) 0 e ≤ maxLen := grownCap_le_maxLen w (0 + m) 0 e (by omega)
  unfold Oper.wp execOp
  simp only [ho, resolve, invoke, builtin, Sem.run_bind, Sem.run_pure, Result.andThen_ok, List.map_toArray, List.map_cons, List.map_nil, hs, hx, hr]
  refine hK _ _ (h _ _ ⟨hl, .inr ⟨w.heap.size, _, _, ?_, Nat.le_refl _, heap_alloc_new w.drew _, ?_, hcm2, ?_, ?_⟩⟩ ⟨rfl, rfl, rfl, by simp, fun k hk _ => Below.heap_alloc w.drew _ k hk⟩)
  · rw [Nat.zero_add]
  · omega
  · simp only [Array.size_append, List.size_toArray, size_zeroCells, hzs, hl, List.length_nil, Nat.zero_add, ← Nat.add_mul]
    simp only [Nat.zero_add] at hge
    congr 1
    omega
  · simp only [Array.toList_append, List.nil_append]
    rw [← hl]
    exact List.take_left
end Go.Proofs.Ytoldmgpdcenmhaa
