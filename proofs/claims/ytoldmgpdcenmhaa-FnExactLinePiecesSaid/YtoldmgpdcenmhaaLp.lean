/- Lines of pieces: plain laws. -/
import Derived.Test.YtoldmgpdcenmhaaBtw2
namespace Go.Proofs.Ytoldmgpdcenmhaa
open Go.RowKit
set_option linter.unusedVariables false
set_option linter.unusedSimpArgs false
set_option maxHeartbeats 400000
set_option maxRecDepth 100000
/-- The sides from which and to which a line goes at a place. -/
def frm (cs : List Ce) (side : Int) (i : Nat) : Int := if 0 < i then sideTo (cs.getD i default) (cs.getD (i - 1) default) else side
def tow (cs : List Ce) (out : Int) (i : Nat) : Int := if i + 1 < cs.length then sideTo (cs.getD i default) (cs.getD (i + 1) default) else out
def pcOf (cs : List Ce) (side out : Int) (i : Nat) : Pc := btw (cs.getD i default) (frm cs side i) (tow cs out i)
def pcsTo (cs : List Ce) (side out : Int) (j : Nat) : List Pc := (List.range j).map (pcOf cs side out)
def noClash (cs : List Ce) (side out : Int) (j : Nat) : Prop := ∀ i, i < j → frm cs side i ≠ tow cs out i
def clash (cs : List Ce) (side out : Int) : Bool := (List.range cs.length).any fun i => decide (frm cs side i = tow cs out i)
def lpIn (cs : List Ce) (side out : Int) : Bool := vPath cs && inB side 0 3 && inB out 0 3
def lineCode (cs : List Ce) (side out : Int) : Int := if clash cs side out = true then 4 else 0
def lineList (cs : List Ce) (side out : Int) : List Pc := if clash cs side out = true then [] else pcsTo cs side out cs.length
def lpCode (cs : List Ce) (side out : Int) : Int := if lpIn cs side out = true then lineCode cs side out else 2
def lpList (cs : List Ce) (side out : Int) : List Pc := if lpIn cs side out = true then lineList cs side out else []
theorem pcsTo_len (cs : List Ce) (side out : Int) (j : Nat) : (pcsTo cs side out j).length = j := by simp [pcsTo]
theorem pcsTo_snoc (cs : List Ce) (side out : Int) (j : Nat) : pcsTo cs side out (j + 1) = pcsTo cs side out j ++ [pcOf cs side out j] := by simp [pcsTo, List.range_succ]
theorem clash_yes (cs : List Ce) (side out : Int) (j : Nat) (h : j < cs.length) (he : frm cs side j = tow cs out j) : clash cs side out = true := by
  unfold clash
  rw [List.any_eq_true]
  exact ⟨j, List.mem_range.2 h, by simp [he]⟩
theorem clash_no (cs : List Ce) (side out : Int) (h : noClash cs side out cs.length) : clash cs side out = false := by
  unfold clash
  rw [Bool.eq_false_iff]
  intro h2
  rw [List.any_eq_true] at h2
  obtain ⟨i, hi, he⟩ := h2
  exact h i (List.mem_range.1 hi) (by simpa using he)
theorem noClash_snoc {cs : List Ce} {side out : Int} {j : Nat} (h : noClash cs side out j) (he : frm cs side j ≠ tow cs out j) : noClash cs side out (j + 1) := by
  intro i hi
  by_cases e : i = j
  · rw [e]; exact he
  · exact h i (by omega)
theorem vPath_parts (cs : List Ce) (h : vPath cs = true) : okUpto cs cs.length ∧ 1 ≤ cs.length ∧ cs.length ≤ 120 := by
  unfold vPath at h
  simp only [Bool.and_eq_true, inB, decide_eq_true_eq] at h
  obtain ⟨⟨h1, h2⟩, h3⟩ := h
  rw [List.all_eq_true] at h3
  refine ⟨fun i hi => ?_, by omega, by omega⟩
  have := h3 i (List.mem_range.2 hi)
  simpa using this
theorem sideTo_bd (a c : Ce) : -1 ≤ sideTo a c ∧ sideTo a c ≤ 3 := by
  unfold sideTo
  repeat' split
  all_goals omega
theorem bad_step {cs : List Ce} {j : Nat} (h : badAt cs j = false) (hj : 0 < j) : 0 ≤ sideTo (cs.getD (j - 1) default) (cs.getD j default) := by
  unfold badAt at h
  simp only [Bool.or_eq_false_iff, Bool.and_eq_false_iff, decide_eq_false_iff_not] at h
  omega
theorem frm_bd (cs : List Ce) (hok : CesOk cs) (side : Int) (h : okUpto cs cs.length) (h1 : 0 ≤ side) (h2 : side ≤ 3) (j : Nat) (hj : j < cs.length) : 0 ≤ frm cs side j ∧ frm cs side j ≤ 3 := by
  unfold frm
  split
  · rename_i hp
    have h3 := sideTo_bd (cs.getD j default) (cs.getD (j - 1) default)
    have h4 := bad_step (h j hj) hp
    rw [getD_at cs j hj, getD_at cs (j - 1) (by omega)] at h3 h4 ⊢
    have h5 := sideTo_sym cs[j] cs[j - 1] (hok j hj) (hok (j - 1) (by omega))
    omega
  · omega
theorem tow_bd (cs : List Ce) (out : Int) (h : okUpto cs cs.length) (h1 : 0 ≤ out) (h2 : out ≤ 3) (j : Nat) (hj : j < cs.length) : 0 ≤ tow cs out j ∧ tow cs out j ≤ 3 := by
  unfold tow
  split
  · rename_i hp
    have h3 := sideTo_bd (cs.getD j default) (cs.getD (j + 1) default)
    have h4 := bad_step (h (j + 1) hp) (by omega)
    rw [Nat.add_sub_cancel] at h4
    omega
  · omega
theorem frm_zero (cs : List Ce) (side : Int) : frm cs side 0 = side := rfl
theorem frm_pos (cs : List Ce) (side : Int) (j : Nat) (hp : 0 < j) (hj : j < cs.length) : frm cs side j = sideTo cs[j] cs[j - 1] := by
  unfold frm
  rw [if_pos hp, getD_at cs j hj, getD_at cs (j - 1) (by omega)]
theorem tow_mid (cs : List Ce) (out : Int) (j : Nat) (hj : j + 1 < cs.length) : tow cs out j = sideTo cs[j] cs[j + 1] := by
  unfold tow
  rw [if_pos hj, getD_at cs j (by omega), getD_at cs (j + 1) hj]
theorem tow_end (cs : List Ce) (out : Int) (j : Nat) (hj : ¬ j + 1 < cs.length) : tow cs out j = out := by
  unfold tow
  rw [if_neg hj]
theorem lpList_len (cs : List Ce) (side out : Int) : (lpList cs side out).length ≤ 120 := by
  unfold lpList lineList
  split
  · rename_i h
    simp only [lpIn, Bool.and_eq_true] at h
    have := vPath_parts cs h.1.1
    split
    · simp
    · rw [pcsTo_len]; omega
  · simp
end Go.Proofs.Ytoldmgpdcenmhaa
