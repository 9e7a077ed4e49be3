/- The plain law of layer 25 (aes): the document's boxes are the boxes. -/
import Derived.Test.YtmcenocmilhekaaAeM
namespace Go.Aes
set_option linter.unusedVariables false
/-- The last of 1 .. k that gives one. -/
def lastN (x : Nat) : Nat → Nat
  | 0 => 0
  | k + 1 => if mul x (k + 1) = 1 then k + 1 else lastN x k
theorem li0 : ∀ j, j < 16 → lastN (0 + j) 255 = inv (0 + j) := by decide +kernel
theorem li1 : ∀ j, j < 16 → lastN (16 + j) 255 = inv (16 + j) := by decide +kernel
theorem li2 : ∀ j, j < 16 → lastN (32 + j) 255 = inv (32 + j) := by decide +kernel
theorem li3 : ∀ j, j < 16 → lastN (48 + j) 255 = inv (48 + j) := by decide +kernel
theorem li4 : ∀ j, j < 16 → lastN (64 + j) 255 = inv (64 + j) := by decide +kernel
theorem li5 : ∀ j, j < 16 → lastN (80 + j) 255 = inv (80 + j) := by decide +kernel
theorem li6 : ∀ j, j < 16 → lastN (96 + j) 255 = inv (96 + j) := by decide +kernel
theorem li7 : ∀ j, j < 16 → lastN (112 + j) 255 = inv (112 + j) := by decide +kernel
theorem li8 : ∀ j, j < 16 → lastN (128 + j) 255 = inv (128 + j) := by decide +kernel
theorem li9 : ∀ j, j < 16 → lastN (144 + j) 255 = inv (144 + j) := by decide +kernel
theorem li10 : ∀ j, j < 16 → lastN (160 + j) 255 = inv (160 + j) := by decide +kernel
theorem li11 : ∀ j, j < 16 → lastN (176 + j) 255 = inv (176 + j) := by decide +kernel
theorem li12 : ∀ j, j < 16 → lastN (192 + j) 255 = inv (192 + j) := by decide +kernel
theorem li13 : ∀ j, j < 16 → lastN (208 + j) 255 = inv (208 + j) := by decide +kernel
theorem li14 : ∀ j, j < 16 → lastN (224 + j) 255 = inv (224 + j) := by decide +kernel
theorem li15 : ∀ j, j < 16 → lastN (240 + j) 255 = inv (240 + j) := by decide +kernel
theorem last_inv (x : Nat) (h : x < 256) : lastN x 255 = inv x := by
  have hr : x % 16 < 16 := Nat.mod_lt _ (by decide)
  have e : x = 16 * (x / 16) + x % 16 := by omega
  generalize x % 16 = j at *
  have hq : x / 16 < 16 := by omega
  generalize x / 16 = q at *
  subst e
  match q, hq with
  | 0, _ => exact li0 j hr
  | 1, _ => exact li1 j hr
  | 2, _ => exact li2 j hr
  | 3, _ => exact li3 j hr
  | 4, _ => exact li4 j hr
  | 5, _ => exact li5 j hr
  | 6, _ => exact li6 j hr
  | 7, _ => exact li7 j hr
  | 8, _ => exact li8 j hr
  | 9, _ => exact li9 j hr
  | 10, _ => exact li10 j hr
  | 11, _ => exact li11 j hr
  | 12, _ => exact li12 j hr
  | 13, _ => exact li13 j hr
  | 14, _ => exact li14 j hr
  | 15, _ => exact li15 j hr
  | n + 16, h => exact absurd h (by omega)
theorem lastN_le (x k : Nat) : lastN x k ≤ k := by
  induction k with
  | zero => exact Nat.le_refl _
  | succ k ih =>
    simp only [lastN]
    split <;> omega
def rotN (y : Nat) : Nat → Nat
  | 0 => y
  | n + 1 => rotN y n * 2 % 256 + rotN y n / 128
def rbN (y : Nat) : Nat → Nat
  | 0 => y ^^^ 99
  | n + 1 => rbN y n ^^^ rotN y (n + 1)
theorem rotN_lt (y n : Nat) (h : y < 256) : rotN y n < 256 := by
  induction n with
  | zero => exact h
  | succ n ih => simp only [rotN]; omega
theorem rbN_lt (y n : Nat) (h : y < 256) : rbN y n < 256 := by
  induction n with
  | zero => exact Nat.xor_lt_two_pow (n := 8) h (by decide)
  | succ n ih => exact Nat.xor_lt_two_pow (n := 8) ih (rotN_lt y (n + 1) h)
theorem rb_box : ∀ y, y < 256 → rbN y 4 = boxN y 5 := by decide +kernel
end Go.Aes
