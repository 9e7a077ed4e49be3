/- Layer 9 (state): slots, in numbers. -/
import Derived.Lib.ItoaNum
import Derived.Lib.BitFns
namespace Go.St

/-- How often 2 goes into a number. -/
def lg (d : Nat) : Nat := Lib.bitLen d - 1
theorem lg_spec (d : Nat) (h0 : 0 < d) (h : d < 4294967296) : 2 ^ lg d ≤ d ∧ d < 2 ^ (lg d + 1) ∧ Lib.bitLen d = lg d + 1 ∧ lg d ≤ 31 := by
  obtain ⟨h1, h2, h3⟩ := Lib.bitLenAux_bounds 64 d (by omega) (by omega)
  have h4 : Lib.bitLen d ≤ 32 := Lib.bitLen_le d 32 (by omega) (by omega)
  unfold lg
  have e : Lib.bitLen d = Lib.bitLenAux 64 d := rfl
  rw [← e] at h1 h2 h3
  exact ⟨h2, by rw [show Lib.bitLen d - 1 + 1 = Lib.bitLen d by omega]; exact h3, by omega, by omega⟩
theorem lg_unique (d n : Nat) (h0 : 0 < d) (h : d < 4294967296) (h1 : 2 ^ n ≤ d) (h2 : d < 2 ^ (n + 1)) : lg d = n := by
  obtain ⟨g1, g2, _⟩ := lg_spec d h0 h
  rcases Nat.lt_trichotomy (lg d) n with hl | he | hl
  · have := Nat.pow_le_pow_right (show 0 < 2 by decide) (show lg d + 1 ≤ n by omega); omega
  · exact he
  · have := Nat.pow_le_pow_right (show 0 < 2 by decide) (show n + 1 ≤ lg d by omega); omega

def slot (d : Nat) : Nat := if d < 4 then d else 2 * lg d + d / 2 ^ (lg d - 1) % 2
/-- The base of a slot, and its bits. -/
def base (k : Nat) : Nat := if k < 4 then k else (2 + k % 2) * 2 ^ (k / 2 - 1)
def sbits (k : Nat) : Nat := if k < 4 then 0 else k / 2 - 1

theorem lg_two (d : Nat) (h : 4 ≤ d) (h2 : d < 4294967296) : 2 ≤ lg d := by
  obtain ⟨g1, g2, _⟩ := lg_spec d (by omega) h2
  by_cases c : 2 ≤ lg d
  · exact c
  · have := Nat.pow_le_pow_right (show 0 < 2 by decide) (show lg d + 1 ≤ 2 by omega); omega

theorem half_split (d : Nat) (h : 4 ≤ d) (h2 : d < 4294967296) : ∃ q r, d = 2 ^ (lg d - 1) * q + r ∧ r < 2 ^ (lg d - 1) ∧ (q = 2 ∨ q = 3) ∧ d / 2 ^ (lg d - 1) = q ∧ 2 ^ lg d = 2 * 2 ^ (lg d - 1) := by
  obtain ⟨g1, g2, _⟩ := lg_spec d (by omega) h2
  have hl := lg_two d h h2
  have e1 : 2 ^ lg d = 2 * 2 ^ (lg d - 1) := by rw [← Nat.pow_succ', show (lg d - 1).succ = lg d by omega]
  have e2 : 2 ^ (lg d + 1) = 2 * 2 ^ lg d := Nat.pow_succ'
  have hp := Nat.two_pow_pos (lg d - 1)
  have hm := Nat.div_add_mod d (2 ^ (lg d - 1))
  have hr := Nat.mod_lt d hp
  refine ⟨d / 2 ^ (lg d - 1), d % 2 ^ (lg d - 1), hm.symm, hr, ?_, rfl, e1⟩
  generalize 2 ^ (lg d - 1) = P at *
  have a1 : 2 ≤ d / P := (Nat.le_div_iff_mul_le hp).2 (by omega)
  have a2 : d / P < 4 := (Nat.div_lt_iff_lt_mul hp).2 (by omega)
  omega

theorem slot_le (d : Nat) (h2 : d < 4294967296) : slot d < 64 := by
  unfold slot
  split
  · omega
  · obtain ⟨_, _, _, h⟩ := lg_spec d (by omega) h2; omega
theorem slot_spec (d : Nat) (h2 : d < 4294967296) : base (slot d) ≤ d ∧ d - base (slot d) < 2 ^ sbits (slot d) ∧ sbits (slot d) ≤ 30 ∧ base (slot d) < 4294967296 := by
  by_cases h : d < 4
  · have e : slot d = d := by unfold slot; rw [if_pos h]
    rw [e]
    unfold base sbits
    rw [if_pos h, if_pos h]
    exact ⟨Nat.le_refl _, by simp, by omega, h2⟩
  · obtain ⟨q, r, hd, hr, hq, hdiv, hpw⟩ := half_split d (by omega) h2
    have hl := lg_two d (by omega) h2
    obtain ⟨_, _, _, h31⟩ := lg_spec d (by omega) h2
    have e : slot d = 2 * lg d + q % 2 := by unfold slot; rw [if_neg h, hdiv]
    have e2 : ¬ slot d < 4 := by omega
    have e3 : slot d / 2 - 1 = lg d - 1 := by omega
    have e4 : 2 + slot d % 2 = q := by omega
    have eb : base (slot d) = q * 2 ^ (lg d - 1) := by unfold base; rw [if_neg e2, e3, e4]
    have ei : sbits (slot d) = lg d - 1 := by unfold sbits; rw [if_neg e2, e3]
    rw [eb, ei, Nat.mul_comm]
    omega
theorem slot_ref (d : Nat) (h : 4 ≤ d) (h2 : d < 4294967296) : slot d = if 2 ^ lg d + 2 ^ lg d / 2 ≤ d then 2 * lg d + 1 else 2 * lg d := by
  obtain ⟨q, r, hd, hr, hq, hdiv, hpw⟩ := half_split d (by omega) h2
  unfold slot
  rw [if_neg (by omega), hdiv, hpw]
  generalize 2 ^ (lg d - 1) = P at *
  rcases hq with rfl | rfl
  · rw [if_neg (by omega)]; omega
  · rw [if_pos (by omega)]
theorem base_ref (k : Nat) (h : 4 ≤ k) : base k = if k % 2 = 1 then 2 ^ (k / 2) + 2 ^ (k / 2) / 2 else 2 ^ (k / 2) := by
  have e1 : 2 ^ (k / 2) = 2 * 2 ^ (k / 2 - 1) := by rw [← Nat.pow_succ', show (k / 2 - 1).succ = k / 2 by omega]
  unfold base
  rw [if_neg (by omega), e1]
  generalize 2 ^ (k / 2 - 1) = P
  rcases Nat.mod_two_eq_zero_or_one k with h | h
  · rw [h, if_neg (by decide)]
  · rw [h, if_pos rfl]; omega
theorem base_lt (k : Nat) (h : k < 64) : base k < 4294967296 := by
  unfold base
  split
  · omega
  · have := Nat.pow_le_pow_right (show 0 < 2 by decide) (show k / 2 - 1 ≤ 30 by omega)
    have h3 : 2 + k % 2 ≤ 3 := by omega
    have := Nat.mul_le_mul h3 this
    omega
end Go.St
