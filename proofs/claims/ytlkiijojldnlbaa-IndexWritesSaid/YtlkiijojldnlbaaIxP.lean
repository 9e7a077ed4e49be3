/- Layer 27 (index), the plain law: what bytes are an index. -/
import Derived.Test.YtlkiijojldnlbaaIx1
namespace Go.Ix
set_option linter.unusedVariables false
/-- One item more. -/
def st1 (r : List UInt8) (t : Nat) : Option (List UInt8 × Nat × (List UInt8 × Nat)) :=
  if r.length < 2 then none
  else if r.length < 6 + le (r.take 2) ∨ 1024 < le (r.take 2) then none
  else if 16777216 < t + le (((r.drop 2).drop (le (r.take 2))).take 4) then none
  else some (((r.drop 2).drop (le (r.take 2))).drop 4, t + le (((r.drop 2).drop (le (r.take 2))).take 4), ((r.drop 2).take (le (r.take 2)), le (((r.drop 2).drop (le (r.take 2))).take 4)))
/-- So many items in. -/
def stN (b : List UInt8) : Nat → Option (List UInt8 × Nat × List (List UInt8 × Nat))
  | 0 => some (b.drop 4, 0, [])
  | i + 1 => match stN b i with
    | none => none
    | some (r, t, l) => match st1 r t with
      | none => none
      | some (r', t', x) => some (r', t', l ++ [x])
def decR (b : List UInt8) : Option (List (List UInt8 × Nat)) :=
  if b.length < 4 then none
  else match stN b (le (b.take 4)) with
    | none => none
    | some (r, t, l) => if r = [] ∧ le (b.take 4) ≤ 1024 then some l else none
theorem stN_next {b r : List UInt8} {i t : Nat} {l : List (List UInt8 × Nat)} (h : stN b i = some (r, t, l)) : stN b (i + 1) = match st1 r t with | none => none | some (r', t', x) => some (r', t', l ++ [x]) := by
  show (match stN b i with | none => none | some (r, t, l) => match st1 r t with | none => none | some (r', t', x) => some (r', t', l ++ [x])) = _
  rw [h]
theorem stN_stop {b : List UInt8} {i : Nat} (h : stN b i = none) : ∀ k, stN b (i + k) = none := by
  intro k
  induction k with
  | zero => exact h
  | succ k ih =>
    show (match stN b (i + k) with | none => none | some (r, t, l) => match st1 r t with | none => none | some (r', t', x) => some (r', t', l ++ [x])) = none
    rw [ih]
theorem dec_none {b : List UInt8} {i : Nat} (hi : i ≤ le (b.take 4)) (h : stN b i = none) : decR b = none := by
  unfold decR
  split
  · rfl
  · have := stN_stop h (le (b.take 4) - i)
    rw [show i + (le (b.take 4) - i) = le (b.take 4) by omega] at this
    rw [this]
theorem dec_step {b r : List UInt8} {i t : Nat} {l : List (List UInt8 × Nat)} (hi : i < le (b.take 4)) (h : stN b i = some (r, t, l)) (h1 : st1 r t = none) : decR b = none := by
  refine dec_none (i := i + 1) hi ?_
  rw [stN_next h, h1]
theorem st1_len {r r' : List UInt8} {t t' : Nat} {x : List UInt8 × Nat} (h : st1 r t = some (r', t', x)) : r'.length + 6 ≤ r.length ∧ t' ≤ 16777216 := by
  unfold st1 at h
  split at h
  · cases h
  · split at h
    · cases h
    · split at h
      · cases h
      · simp only [Option.some.injEq, Prod.mk.injEq] at h
        obtain ⟨rfl, rfl, _⟩ := h
        rw [List.length_drop, List.length_drop, List.length_drop]
        omega
theorem stN_len {b : List UInt8} (hb : 4 ≤ b.length) : ∀ (i : Nat) {r : List UInt8} {t : Nat} {l : List (List UInt8 × Nat)}, stN b i = some (r, t, l) → r.length + 6 * i + 4 ≤ b.length ∧ l.length = i ∧ t ≤ 16777216
  | 0, r, t, l, h => by
    simp only [stN, Option.some.injEq, Prod.mk.injEq] at h
    obtain ⟨rfl, rfl, rfl⟩ := h
    rw [List.length_drop]
    exact ⟨by omega, rfl, by omega⟩
  | i + 1, r, t, l, h => by
    rcases hs : stN b i with _ | ⟨r0, t0, l0⟩
    · have := stN_stop hs 1
      rw [this] at h
      cases h
    · have ih := stN_len hb i hs
      rw [stN_next hs] at h
      rcases h1 : st1 r0 t0 with _ | ⟨r1, t1, x⟩
      · rw [h1] at h; cases h
      · rw [h1] at h
        simp only [Option.some.injEq, Prod.mk.injEq] at h
        obtain ⟨rfl, rfl, rfl⟩ := h
        have hl := st1_len h1
        rw [List.length_append]
        exact ⟨by omega, by simp; omega, hl.2⟩
end Go.Ix
