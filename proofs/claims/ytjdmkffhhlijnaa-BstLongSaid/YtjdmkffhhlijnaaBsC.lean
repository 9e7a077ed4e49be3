/- The plain laws of layer 08 (bst): what goes round is found whole; a tree finds what a chain finds. -/
import Derived.Test.YtjdmkffhhlijnaaBsM
namespace Go.Bs
open Go.Ch
set_option linter.unusedVariables false
theorem cand_three (l : List UInt8) (i d : Nat) : cand l i d = true ↔ 3 ≤ alike l (i - d) i := by
  constructor
  · intro h
    unfold cand at h
    simp only [Bool.and_eq_true, decide_eq_true_eq] at h
    obtain ⟨h1, h2⟩ := h
    unfold tri at h2
    injection h2 with a h2
    injection h2 with b h2
    injection h2 with c h2
    refine alike_ge (by unfold most; omega) (fun j hj => ?_)
    rcases (show j = 0 ∨ j = 1 ∨ j = 2 by omega) with rfl | rfl | rfl
    · simpa using a.symm
    · exact b.symm
    · exact c.symm
  · intro h
    have hm := alike_le l (i - d) i
    have hl : i + 3 ≤ l.length := by unfold most at hm; omega
    have a := alike_same (l := l) (a := i - d) (b := i) (j := 0) (by omega)
    have b := alike_same (l := l) (a := i - d) (b := i) (j := 1) (by omega)
    have c := alike_same (l := l) (a := i - d) (b := i) (j := 2) (by omega)
    unfold cand tri
    simp only [Bool.and_eq_true, decide_eq_true_eq]
    refine ⟨hl, ?_⟩
    simp only [Nat.add_zero] at a
    rw [a, b, c]
/-- Those of three bytes and more. -/
def longs (L : List (Nat × Nat)) : List (Nat × Nat) := L.filter (fun x => decide (3 ≤ x.1))
def big (b : Nat) : Nat := if 3 ≤ b then b else 0
theorem big_pos {b : Nat} (h : 3 ≤ b) : big b = b := if_pos h
theorem big_neg {b : Nat} (h : ¬ 3 ≤ b) : big b = 0 := if_neg h
theorem big_lt {b n : Nat} (h : 3 ≤ n) : big b < n ↔ b < n := by
  by_cases e : 3 ≤ b
  · rw [big_pos e]
  · rw [big_neg e]; omega
theorem chain_tree (l : List UInt8) (i : Nat) (cut : Int) (hc : (i : Int) ≤ cut) : ∀ m, m ≤ i →
    (hst l i cut m).out = longs (allH l i m).2 ∧ (hst l i cut m).best = big (allH l i m).1 ∧ (hst l i cut m).seen ≤ m := by
  intro m
  induction m with
  | zero => intro _; exact ⟨rfl, rfl, Nat.le_refl 0⟩
  | succ m ih =>
    intro hm
    obtain ⟨h1, h2, h3⟩ := ih (by omega)
    clear ih
    obtain ⟨n, hn⟩ : ∃ n, alike l (i - (m + 1)) i = n := ⟨_, rfl⟩
    have hcd := cand_three l i (m + 1)
    rw [hn] at hcd
    simp only [hst, allH]
    generalize hst l i cut m = H at *
    generalize allH l i m = A at *
    by_cases h : 3 ≤ n
    · rw [if_pos ⟨hcd.2 h, by omega⟩]
      unfold stepH stepA
      rw [hn]
      by_cases hb : A.1 < n
      · have hb2 : H.best < n := by rw [h2]; exact (big_lt h).2 hb
        rw [if_pos hb, if_pos hb2]
        refine ⟨?_, ?_, ?_⟩
        · show H.out ++ [(n, m + 1)] = longs (A.2 ++ [(n, m + 1)])
          unfold longs at h1 ⊢
          rw [List.filter_append, h1]
          simp [h]
        · show n = big n
          rw [big_pos h]
        · show H.seen + 1 ≤ m + 1
          omega
      · have hb2 : ¬ H.best < n := by rw [h2]; exact fun e => hb ((big_lt h).1 e)
        rw [if_neg hb, if_neg hb2]
        exact ⟨h1, h2, by show H.seen + 1 ≤ m + 1; omega⟩
    · rw [if_neg (fun e => h (hcd.1 e.1))]
      unfold stepA
      rw [hn]
      by_cases hb : A.1 < n
      · rw [if_pos hb]
        refine ⟨?_, ?_, by omega⟩
        · show H.out = longs (A.2 ++ [(n, m + 1)])
          unfold longs at h1 ⊢
          rw [List.filter_append, h1]
          simp; omega
        · show H.best = big n
          rw [big_neg h, h2, big_neg (by omega)]
      · rw [if_neg hb]
        exact ⟨h1, h2, by omega⟩
theorem chain_is (l : List UInt8) (i : Nat) (win cut : Int) (hc : (i : Int) ≤ cut) : foundL l i win cut = longs (allH l i (lim i win)).2 := (chain_tree l i cut hc (lim i win) (lim_le i win).1).1
/-- The last one told is the best. -/
theorem last_told (l : List UInt8) (i : Nat) : ∀ m, ((allH l i m).1 = 1 ∧ (allH l i m).2 = []) ∨ ∃ d, 1 ≤ d ∧ d ≤ m ∧ (allH l i m).2.getLast? = some ((allH l i m).1, d) := by
  intro m
  induction m with
  | zero => exact .inl ⟨rfl, rfl⟩
  | succ m ih =>
    simp only [allH]
    generalize allH l i m = A at *
    unfold stepA
    split
    · exact .inr ⟨m + 1, by omega, by omega, by simp⟩
    · rcases ih with h | ⟨d, h1, h2, h3⟩
      · exact .inl h
      · exact .inr ⟨d, h1, by omega, h3⟩
theorem best_most (l : List UInt8) (i : Nat) : ∀ m, (allH l i m).1 ≤ max 1 (most l i) := by
  intro m
  induction m with
  | zero => show 1 ≤ _; omega
  | succ m ih =>
    simp only [allH]
    generalize allH l i m = A at *
    unfold stepA
    have := alike_le l (i - (m + 1)) i
    split
    · show alike l (i - (m + 1)) i ≤ _; omega
    · exact ih
theorem all_stays (l : List UInt8) (i r : Nat) (h : most l i ≤ (allH l i r).1) : ∀ k, allH l i (r + k) = allH l i r := by
  intro k
  induction k with
  | zero => rfl
  | succ k ih =>
    show stepA l i (r + k + 1) (allH l i (r + k)) = _
    rw [ih]
    unfold stepA
    have := alike_le l (i - (r + k + 1)) i
    rw [if_neg (by omega)]
/-- What goes round with r is found whole, at most r back. -/
theorem round_law (l : List UInt8) (i r m : Nat) (hr : 1 ≤ r) (hri : r ≤ i) (hm : r ≤ m) (hp : ∀ j, j + r < l.length → l.getD (j + r) 0 = l.getD j 0) (h2 : 2 ≤ most l i) :
    ∃ d, d ≤ r ∧ (allH l i m).2.getLast? = some (most l i, d) := by
  have ha : most l i ≤ alike l (i - r) i := alike_ge (Nat.le_refl _) (fun j hj => by
    have := hp (i - r + j) (by unfold most at hj; omega)
    rw [show i - r + j + r = i + j by omega] at this
    exact this.symm)
  have hb := best_ge l i r r hr (Nat.le_refl _)
  have hle := best_most l i r
  have e : (allH l i r).1 = most l i := by omega
  have hs := all_stays l i r (by omega) (m - r)
  rw [show r + (m - r) = m by omega] at hs
  rw [hs]
  rcases last_told l i r with ⟨h, _⟩ | ⟨d, h1, h3, h4⟩
  · omega
  · exact ⟨d, h3, by rw [h4, e]⟩
end Go.Bs
