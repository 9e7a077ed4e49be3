/- The plain law of layer 07 (chain): what is found at a place, by all that lies ahead of it and by chains. -/
namespace Go.Ch
set_option linter.unusedVariables false
/-- How many bytes are alike from n on, at most f more. -/
def alk (l : List UInt8) (a b : Nat) : Nat → Nat → Nat
  | 0, n => n
  | f + 1, n => if l.getD (a + n) 0 = l.getD (b + n) 0 then alk l a b f (n + 1) else n
def most (l : List UInt8) (b : Nat) : Nat := min (l.length - b) 273
def alike (l : List UInt8) (a b : Nat) : Nat := alk l a b (most l b) 0
theorem alk_le (l : List UInt8) (a b : Nat) : ∀ f n, n ≤ alk l a b f n ∧ alk l a b f n ≤ n + f := by
  intro f
  induction f with
  | zero => intro n; exact ⟨Nat.le_refl _, Nat.le_refl _⟩
  | succ f ih =>
    intro n
    simp only [alk]
    split
    · have := ih (n + 1); omega
    · omega
theorem alike_le (l : List UInt8) (a b : Nat) : alike l a b ≤ most l b := by have := (alk_le l a b (most l b) 0).2; unfold alike; omega
theorem alk_same (l : List UInt8) (a b : Nat) : ∀ f n j, n ≤ j → j < alk l a b f n → l.getD (a + j) 0 = l.getD (b + j) 0 := by
  intro f
  induction f with
  | zero => intro n j h1 h2; simp only [alk] at h2; omega
  | succ f ih =>
    intro n j h1 h2
    simp only [alk] at h2
    split at h2
    · rename_i he
      by_cases e : j = n
      · subst e; exact he
      · exact ih (n + 1) j (by omega) h2
    · omega
theorem alk_ge (l : List UInt8) (a b m : Nat) : ∀ f n, m ≤ n + f → (∀ j, n ≤ j → j < m → l.getD (a + j) 0 = l.getD (b + j) 0) → m ≤ alk l a b f n ∨ m ≤ n := by
  intro f
  induction f with
  | zero => intro n h _; exact .inr (by omega)
  | succ f ih =>
    intro n h hs
    by_cases e : m ≤ n
    · exact .inr e
    · simp only [alk, if_pos (hs n (by omega) (by omega))]
      rcases ih (n + 1) (by omega) (fun j h1 h2 => hs j (by omega) h2) with h | h
      · exact .inl h
      · have := (alk_le l a b f (n + 1)).1
        exact .inl (by omega)
def tri (l : List UInt8) (i : Nat) : List UInt8 := [l.getD i 0, l.getD (i + 1) 0, l.getD (i + 2) 0]
/-- d back there stood the same three bytes. -/
def cand (l : List UInt8) (i d : Nat) : Bool := decide (i + 3 ≤ l.length) && decide (tri l i = tri l (i - d))
structure HS where
  best : Nat
  seen : Nat
  out : List (Nat × Nat)
def stepH (l : List UInt8) (i d : Nat) (h : HS) : HS :=
  if h.best < alike l (i - d) i then ⟨alike l (i - d) i, h.seen + 1, h.out ++ [(alike l (i - d) i, d)]⟩ else ⟨h.best, h.seen + 1, h.out⟩
/-- What is found up to m back. -/
def hst (l : List UInt8) (i : Nat) (cut : Int) : Nat → HS
  | 0 => ⟨0, 0, []⟩
  | m + 1 => if cand l i (m + 1) = true ∧ ((hst l i cut m).seen : Int) < cut then stepH l i (m + 1) (hst l i cut m) else hst l i cut m
def lim (i : Nat) (window : Int) : Nat := (min (i : Int) window).toNat
def foundL (l : List UInt8) (i : Nat) (window cut : Int) : List (Nat × Nat) := (hst l i cut (lim i window)).out
/-- No candidates between: as it was. -/
theorem hst_skip (l : List UInt8) (i : Nat) (cut : Int) (m : Nat) : ∀ k, (∀ d, m < d → d ≤ m + k → cand l i d = false) → hst l i cut (m + k) = hst l i cut m := by
  intro k
  induction k with
  | zero => intro _; rfl
  | succ k ih =>
    intro h
    have e : hst l i cut (m + (k + 1)) = hst l i cut (m + k) := by
      show (if cand l i (m + k + 1) = true ∧ ((hst l i cut (m + k)).seen : Int) < cut then _ else _) = _
      rw [if_neg (by rw [h (m + k + 1) (by omega) (by omega)]; simp)]
      rfl
    rw [e]
    exact ih (fun d h1 h2 => h d h1 (by omega))
/-- The cut is met: as it was. -/
theorem hst_cut (l : List UInt8) (i : Nat) (cut : Int) (m : Nat) (hc : ¬ ((hst l i cut m).seen : Int) < cut) : ∀ k, hst l i cut (m + k) = hst l i cut m := by
  intro k
  induction k with
  | zero => rfl
  | succ k ih =>
    show (if cand l i (m + k + 1) = true ∧ ((hst l i cut (m + k)).seen : Int) < cut then _ else _) = _
    rw [if_neg (fun h => hc (by rw [← ih]; exact h.2))]
    exact ih
/-- The last place below k with the same three bytes as place j. -/
def prvN (l : List UInt8) (j : Nat) : Nat → Int
  | 0 => -1
  | k + 1 => if tri l k = tri l j then (k : Int) else prvN l j k
def prv (l : List UInt8) (j : Nat) : Int := if j + 3 ≤ l.length then prvN l j j else -1
theorem prvN_spec (l : List UInt8) (j : Nat) : ∀ k, (prvN l j k = -1 ∧ ∀ q, q < k → tri l q ≠ tri l j) ∨ (∃ p, prvN l j k = (p : Nat) ∧ p < k ∧ tri l p = tri l j ∧ ∀ q, p < q → q < k → tri l q ≠ tri l j) := by
  intro k
  induction k with
  | zero => exact .inl ⟨rfl, fun q h => absurd h (Nat.not_lt_zero _)⟩
  | succ k ih =>
    simp only [prvN]
    by_cases e : tri l k = tri l j
    · rw [if_pos e]
      exact .inr ⟨k, rfl, by omega, e, fun q h1 h2 => by omega⟩
    · rw [if_neg e]
      rcases ih with ⟨h1, h2⟩ | ⟨p, h1, h2, h3, h4⟩
      · exact .inl ⟨h1, fun q hq => by
          by_cases e2 : q = k
          · subst e2; exact e
          · exact h2 q (by omega)⟩
      · exact .inr ⟨p, h1, by omega, h3, fun q ha hb => by
          by_cases e2 : q = k
          · subst e2; exact e
          · exact h4 q ha (by omega)⟩
/-- The last place below k with these three bytes. -/
def lastN (l : List UInt8) (key : List UInt8) : Nat → Option Nat
  | 0 => none
  | k + 1 => if k + 3 ≤ l.length ∧ tri l k = key then some k else lastN l key k
theorem lastN_prv (l : List UInt8) (j : Nat) : ∀ k, k + 2 ≤ l.length → prvN l j k = (match lastN l (tri l j) k with | some p => (p : Int) | none => -1) := by
  intro k
  induction k with
  | zero => intro _; rfl
  | succ k ih =>
    intro hk
    simp only [prvN, lastN]
    by_cases e : tri l k = tri l j
    · rw [if_pos e, if_pos ⟨by omega, e⟩]
    · rw [if_neg e, if_neg (fun h => e h.2)]
      exact ih (by omega)
end Go.Ch
