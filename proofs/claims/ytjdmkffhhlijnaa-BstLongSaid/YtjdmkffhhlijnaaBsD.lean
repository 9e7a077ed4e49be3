/- The plain laws of layer 08 (bst), what the walks ask: the long ones out of a front; a text that goes round. -/
import Derived.Test.YtjdmkffhhlijnaaBsC
namespace Go.Bs
open Go.Ch
set_option linter.unusedVariables false
theorem longs_next (L : List (Nat × Nat)) (k : Nat) (hk : k < L.length) : longs (L.take (k + 1)) = if 3 ≤ (L[k]).1 then longs (L.take k) ++ [L[k]] else longs (L.take k) := by
  rw [List.take_succ_eq_append_getElem hk]
  unfold longs
  rw [List.filter_append]
  by_cases h : 3 ≤ (L[k]).1
  · rw [if_pos h]; simp [h]
  · rw [if_neg h]; simp [h]
theorem longs_le (L : List (Nat × Nat)) : (longs L).length ≤ L.length := List.length_filter_le _ _
/-- A text that goes round. -/
def goL (r : List UInt8) (n : Nat) : List UInt8 := (List.range n).map fun i => r.getD (i % r.length) 0
theorem goL_next (r : List UInt8) (n : Nat) : goL r (n + 1) = goL r n ++ [r.getD (n % r.length) 0] := by simp [goL, List.range_succ]
theorem goL_length (r : List UInt8) (n : Nat) : (goL r n).length = n := by simp [goL]
theorem goL_get (r : List UInt8) (n j : Nat) (h : j < n) : (goL r n).getD j 0 = r.getD (j % r.length) 0 := by
  simp [goL, h]
theorem goL_round (r : List UInt8) (n j : Nat) (h : j + r.length < n) : (goL r n).getD (j + r.length) 0 = (goL r n).getD j 0 := by
  rw [goL_get _ _ _ h, goL_get _ _ _ (by omega), Nat.add_mod_right]
/-- At each place behind the first round the rest is found. -/
theorem long_law (r : List UInt8) (n i : Nat) (win : Int) (hr : 1 ≤ r.length) (hi : r.length ≤ i) (hw : (i : Int) ≤ win) (h2 : 2 ≤ most (goL r n) i) :
    ∃ k d, ∃ h : k < ((allH (goL r n) i (lim i win)).2).length, ((allH (goL r n) i (lim i win)).2).length = k + 1 ∧ ((allH (goL r n) i (lim i win)).2)[k] = (most (goL r n) i, d) ∧ d ≤ r.length := by
  obtain ⟨d, h1, h3⟩ := round_law (goL r n) i r.length (lim i win) hr hi (by unfold lim; omega) (fun j hj => goL_round r n j (by rw [goL_length] at hj; exact hj)) h2
  generalize ((allH (goL r n) i (lim i win)).2) = L at *
  rw [List.getLast?_eq_getElem?] at h3
  obtain ⟨hk, he⟩ := List.getElem?_eq_some_iff.1 h3
  exact ⟨L.length - 1, d, hk, by omega, he, h1⟩
end Go.Bs
