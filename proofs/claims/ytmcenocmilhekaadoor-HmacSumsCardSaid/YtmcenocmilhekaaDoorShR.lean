/- The plain law of the document's constants (layer 23): primes, powers by digits, roots. -/
import Derived.Test.YtmcenocmilhekaaDoorShM
namespace Go.Sha
set_option linter.unusedVariables false

def primes : List Nat := [2, 3, 5, 7, 11, 13, 17, 19, 23, 29, 31, 37, 41, 43, 47, 53, 59, 61, 67, 71, 73, 79, 83, 89, 97, 101, 103, 107, 109, 113, 127, 131, 137, 139, 149, 151, 157, 163, 167, 173, 179, 181, 191, 193, 197, 199, 211, 223, 227, 229, 233, 239, 241, 251, 257, 263, 269, 271, 277, 281, 283, 293, 307, 311]
def pr (j : Nat) : Nat := primes.getD j 0
def lo (j : Nat) : Nat := if j = 0 then 1 else pr (j - 1)
/-- No divisor among 2 .. j + 1. -/
def upTo (n : Nat) : Nat → Bool
  | 0 => true
  | j + 1 => upTo n j && decide (n % (j + 2) ≠ 0)
def dEnd (n : Nat) : Nat := if n < 4 then 2 else if n < 9 then 3 else if n < 16 then 4 else if n < 25 then 5 else if n < 36 then 6 else if n < 49 then 7 else if n < 64 then 8 else if n < 81 then 9 else if n < 100 then 10
  else if n < 121 then 11 else if n < 144 then 12 else if n < 169 then 13 else if n < 196 then 14 else if n < 225 then 15 else if n < 256 then 16 else if n < 289 then 17 else 18
def whole (n : Nat) : Bool := upTo n (dEnd n - 2)
theorem dEnd_is (n d : Nat) (hn : n < 324) (hd : 2 ≤ d) : d * d ≤ n ↔ d < dEnd n := by
  have key : ∀ n, n < 324 → ∀ d, d < 19 → 2 ≤ d → (d * d ≤ n ↔ d < dEnd n) := by decide +kernel
  rcases Nat.lt_or_ge d 19 with h | h
  · exact key n hn d h hd
  · have h2 : 19 * 19 ≤ d * d := Nat.mul_le_mul h h
    have h3 : ∀ n, n < 324 → dEnd n ≤ 18 := by decide +kernel
    have := h3 n hn
    exact ⟨fun h4 => by omega, fun h4 => by omega⟩
theorem dEnd_ge : ∀ n, n < 324 → 2 ≤ dEnd n ∧ dEnd n ≤ 18 := by decide +kernel
theorem pr_bounds : ∀ j, j < 64 → lo j < pr j ∧ pr j ≤ 311 ∧ 1 ≤ lo j := by decide +kernel
theorem pr_whole : ∀ j, j < 64 → whole (pr j) = true := by decide +kernel
theorem pr_next : ∀ j, j < 64 → ∀ n, n < 312 → lo j < n → n < pr j → whole n = false := by decide +kernel

def M64 : Nat := 18446744073709551616
def dig (x : Nat) : List Nat := [x % 262144, x / 262144, 0, 0, 0, 0, 0, 0]
def mulA (out d l : List Nat) (i : Nat) : List Nat := l.set i ((l.getD i 0 + out.getD i 0 * d.getD 0 0) % M64)
def mulB (out d l : List Nat) (i : Nat) : List Nat := l.set (i + 1) ((l.getD (i + 1) 0 + out.getD i 0 * d.getD 1 0) % M64)
def mulN (out d : List Nat) : Nat → List Nat
  | 0 => [0, 0, 0, 0, 0, 0, 0, 0]
  | i + 1 => mulB out d (mulA out d (mulN out d i) i) i
def carA (l : List Nat) (i : Nat) : List Nat := l.set (i + 1) ((l.getD (i + 1) 0 + l.getD i 0 / 262144) % M64)
def carB (l : List Nat) (i : Nat) : List Nat := l.set i (l.getD i 0 % 262144)
def carN (l : List Nat) : Nat → List Nat
  | 0 => l
  | i + 1 => carB (carA (carN l i) i) i
def facN (x : Nat) : Nat → List Nat
  | 0 => dig x
  | k + 1 => carN (mulN (facN x k) (dig x) 6) 7
def dblN (v : Nat) : Nat → Nat
  | 0 => v
  | i + 1 => dblN v i * 2 % M64
def golN (v at_ : Nat) : Nat → List Nat × Nat
  | 0 => ([0, 0, 0, 0, 0, 0, 0, 0], v)
  | i + 1 => ((golN v at_ i).1.set (at_ + i) ((golN v at_ i).2 % 262144), (golN v at_ i).2 / 262144)
def cmpN (out goal : List Nat) : Nat → Bool
  | 0 => true
  | i + 1 => if out.getD i 0 = goal.getD i 0 then cmpN out goal i else decide (out.getD i 0 < goal.getD i 0)
def gol (p f : Nat) : List Nat := (golN (dblN p (32 * f % 18)) (32 * f / 18) (8 - 32 * f / 18)).1
def mostB (x p f : Nat) : Bool := cmpN (facN x (f - 1)) (gol p f) 8
def rootN (p f : Nat) : Nat → Nat
  | 0 => 0
  | k + 1 => if mostB (rootN p f k + 34359738368 / 2 ^ k) p f then rootN p f k + 34359738368 / 2 ^ k else rootN p f k
def root (p f : Nat) : Nat := rootN p f 36 % 4294967296
theorem root_two : ∀ i, i < 8 → root (pr i) 2 = first.list.getD i 0 := by decide +kernel
theorem rt0 : ∀ j, j < 4 → root (pr (0 + j)) 3 = kk.getD (0 + j) 0 := by decide +kernel
theorem rt1 : ∀ j, j < 4 → root (pr (4 + j)) 3 = kk.getD (4 + j) 0 := by decide +kernel
theorem rt2 : ∀ j, j < 4 → root (pr (8 + j)) 3 = kk.getD (8 + j) 0 := by decide +kernel
theorem rt3 : ∀ j, j < 4 → root (pr (12 + j)) 3 = kk.getD (12 + j) 0 := by decide +kernel
theorem rt4 : ∀ j, j < 4 → root (pr (16 + j)) 3 = kk.getD (16 + j) 0 := by decide +kernel
theorem rt5 : ∀ j, j < 4 → root (pr (20 + j)) 3 = kk.getD (20 + j) 0 := by decide +kernel
theorem rt6 : ∀ j, j < 4 → root (pr (24 + j)) 3 = kk.getD (24 + j) 0 := by decide +kernel
theorem rt7 : ∀ j, j < 4 → root (pr (28 + j)) 3 = kk.getD (28 + j) 0 := by decide +kernel
theorem rt8 : ∀ j, j < 4 → root (pr (32 + j)) 3 = kk.getD (32 + j) 0 := by decide +kernel
theorem rt9 : ∀ j, j < 4 → root (pr (36 + j)) 3 = kk.getD (36 + j) 0 := by decide +kernel
theorem rt10 : ∀ j, j < 4 → root (pr (40 + j)) 3 = kk.getD (40 + j) 0 := by decide +kernel
theorem rt11 : ∀ j, j < 4 → root (pr (44 + j)) 3 = kk.getD (44 + j) 0 := by decide +kernel
theorem rt12 : ∀ j, j < 4 → root (pr (48 + j)) 3 = kk.getD (48 + j) 0 := by decide +kernel
theorem rt13 : ∀ j, j < 4 → root (pr (52 + j)) 3 = kk.getD (52 + j) 0 := by decide +kernel
theorem rt14 : ∀ j, j < 4 → root (pr (56 + j)) 3 = kk.getD (56 + j) 0 := by decide +kernel
theorem rt15 : ∀ j, j < 4 → root (pr (60 + j)) 3 = kk.getD (60 + j) 0 := by decide +kernel
theorem root_three (i : Nat) (h : i < 64) : root (pr i) 3 = kk.getD i 0 := by
  have hr : i % 4 < 4 := Nat.mod_lt _ (by decide)
  have e : i = 4 * (i / 4) + i % 4 := by omega
  generalize i % 4 = j at *
  have hq : i / 4 < 16 := by omega
  generalize i / 4 = q at *
  subst e
  match q, hq with
  | 0, _ => exact rt0 j hr
  | 1, _ => exact rt1 j hr
  | 2, _ => exact rt2 j hr
  | 3, _ => exact rt3 j hr
  | 4, _ => exact rt4 j hr
  | 5, _ => exact rt5 j hr
  | 6, _ => exact rt6 j hr
  | 7, _ => exact rt7 j hr
  | 8, _ => exact rt8 j hr
  | 9, _ => exact rt9 j hr
  | 10, _ => exact rt10 j hr
  | 11, _ => exact rt11 j hr
  | 12, _ => exact rt12 j hr
  | 13, _ => exact rt13 j hr
  | 14, _ => exact rt14 j hr
  | 15, _ => exact rt15 j hr
  | n + 16, h => exact absurd h (by omega)
end Go.Sha
