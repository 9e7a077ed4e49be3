/- The plain law of layer 25 (aes): bytes as polynomials. -/
namespace Go.Aes
set_option linter.unusedVariables false
def dbl (x : Nat) : Nat := (x * 2 % 256) ^^^ (x / 128 * 27)
def mulG : Nat → Nat → Nat → Nat → Nat
  | 0, _, _, o => o
  | n + 1, x, y, o => mulG n (dbl x) (y / 2) (o ^^^ x * (y % 2))
def mul (x y : Nat) : Nat := mulG 8 x y 0
def invN (x : Nat) : Nat → Nat
  | 0 => 1
  | n + 1 => mul (invN x n) x
def inv (x : Nat) : Nat := invN x 254
def rot8 (x n : Nat) : Nat := (x * 2 ^ n % 256) ||| (x / 2 ^ (8 - n))
def boxN (y : Nat) : Nat → Nat
  | 0 => 99
  | n + 1 => boxN y n ^^^ rot8 y n
def box (x : Nat) : Nat := boxN (inv x) 5
theorem dbl_lt (x : Nat) (h : x < 256) : dbl x < 256 := by
  unfold dbl
  exact Nat.xor_lt_two_pow (n := 8) (Nat.mod_lt _ (by decide)) (by omega)
theorem mulG_zero (n : Nat) : ∀ x o, mulG n x 0 o = o := by
  induction n with
  | zero => intro x o; rfl
  | succ n ih => intro x o; simp [mulG, ih]
theorem part_lt (x y : Nat) (h : x < 256) : x * (y % 2) < 256 := by
  rcases Nat.mod_two_eq_zero_or_one y with e | e <;> rw [e] <;> omega
theorem mulG_lt (n : Nat) : ∀ x y o, x < 256 → o < 256 → mulG n x y o < 256 := by
  induction n with
  | zero => intro x y o _ h; exact h
  | succ n ih => intro x y o hx ho; exact ih _ _ _ (dbl_lt x hx) (Nat.xor_lt_two_pow (n := 8) ho (part_lt x y hx))
theorem mul_lt (x y : Nat) (hx : x < 256) : mul x y < 256 := mulG_lt 8 x y 0 hx (by decide)
theorem invN_lt (x n : Nat) : invN x n < 256 := by
  induction n with
  | zero => exact (by decide : (1 : Nat) < 256)
  | succ n ih => exact mul_lt _ _ ih
theorem rot8_lt (x n : Nat) (hx : x < 256) : rot8 x n < 256 :=
  Nat.or_lt_two_pow (n := 8) (Nat.mod_lt _ (by decide)) (Nat.lt_of_le_of_lt (Nat.div_le_self _ _) hx)
theorem boxN_lt (y n : Nat) (hy : y < 256) : boxN y n < 256 := by
  induction n with
  | zero => exact (by decide : (99 : Nat) < 256)
  | succ n ih => exact Nat.xor_lt_two_pow (n := 8) ih (rot8_lt y n hy)
/-- The document's way to double a byte. -/
theorem dbl_ref (x : Nat) (h : x < 256) : dbl x = if 255 < x * 2 then (x * 2 - 256) ^^^ 27 else x * 2 := by
  have key : ∀ x, x < 256 → dbl x = if 255 < x * 2 then (x * 2 - 256) ^^^ 27 else x * 2 := by decide +kernel
  exact key x h
end Go.Aes
