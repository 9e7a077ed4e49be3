/- Plain facts on the sum of layer 1, in numbers. -/
import Derived.Laws.BitsLemmas
import Derived.Laws.BytesArg
import Derived.RowKit
namespace Go.Crc
open Go.RowKit

theorem bits_xor (k : IntKind) (hk : ∀ n : Int, 0 ≤ n → n < 2 ^ k.bits → k.wrap n = n) (a b : Nat) (ha : a < 2 ^ k.bits) (hb : b < 2 ^ k.bits) :
    bits .xor k a b = ((a ^^^ b : Nat) : Int) := by
  have ha' : a % 2 ^ k.bits = a := Nat.mod_eq_of_lt ha
  have hb' : b % 2 ^ k.bits = b := Nat.mod_eq_of_lt hb
  simp only [bits, BitVec.ofInt_natCast, BitVec.toNat_xor, BitVec.toNat_ofNat, ha', hb']
  refine hk _ (Int.natCast_nonneg _) ?_
  have := Nat.xor_lt_two_pow ha hb
  exact_mod_cast this
theorem xor32 (a b : Nat) (ha : a < 4294967296) (hb : b < 4294967296) : Go.bits .xor .u32 (a : Int) (b : Int) = ((a ^^^ b : Nat) : Int) :=
  bits_xor .u32 (fun n h0 h1 => by rw [IntKind.wrap_u32]; exact Int.emod_eq_of_lt h0 h1) a b ha hb
theorem and1 (a : Nat) (ha : a < 4294967296) : Go.bits .and .u32 (a : Int) 1 = ((a % 2 : Nat) : Int) := by
  have h := (bits_nat .u32 32 (by decide) (fun n h0 h1 => by rw [IntKind.wrap_u32]; omega) a 1 ha (by decide)).1
  rw [show ((1 : Nat) : Int) = 1 from rfl] at h
  rw [h, Nat.and_one_is_mod]

def stp (n : Nat) : Nat := (n / 2) ^^^ (if n % 2 = 1 then 3988292384 else 0)
def its : Nat → Nat → Nat
  | 0, n => n
  | d + 1, n => its d (stp n)
def run (n : Nat) (l : List UInt8) : Nat := l.foldl (fun n b => its 8 (n ^^^ b.toNat)) n

theorem stp_lt (n : Nat) (h : n < 4294967296) : stp n < 4294967296 := by
  unfold stp
  refine Nat.xor_lt_two_pow (n := 32) (by omega) ?_
  split <;> decide
theorem its_lt (d : Nat) : ∀ n, n < 4294967296 → its d n < 4294967296 := by
  induction d with
  | zero => exact fun n h => h
  | succ d ih => exact fun n h => ih _ (stp_lt n h)
theorem byte_lt (n : Nat) (b : UInt8) (h : n < 4294967296) : n ^^^ b.toNat < 4294967296 :=
  Nat.xor_lt_two_pow (n := 32) h (by have := b.toNat_lt; omega)
theorem run_lt (l : List UInt8) : ∀ n, n < 4294967296 → run n l < 4294967296 := by
  induction l with
  | nil => exact fun n h => h
  | cons b l ih => exact fun n h => ih _ (its_lt 8 _ (byte_lt n b h))

theorem stepP (n : Nat) (h : n < 4294967296) : Go.bits .xor .u32 ((n : Int) / 2) ((3988292384 * (Go.bits .and .u32 (n : Int) 1)) % 4294967296) = (stp n : Int) := by
  rw [and1 n h]
  unfold stp
  have e : (n : Int) / 2 = ((n / 2 : Nat) : Int) := by omega
  rw [e]
  rcases Nat.mod_two_eq_zero_or_one n with hz | hz
  · rw [hz, if_neg (by decide)]
    rw [show ((3988292384 * ((0 : Nat) : Int)) % 4294967296) = ((0 : Nat) : Int) from rfl]
    exact xor32 _ _ (by omega) (by decide)
  · rw [hz, if_pos rfl]
    rw [show ((3988292384 * ((1 : Nat) : Int)) % 4294967296) = ((3988292384 : Nat) : Int) from rfl]
    exact xor32 _ _ (by omega) (by decide)

theorem ones_xor (n : Nat) (h : n < 4294967296) : n ^^^ 4294967295 = 4294967295 - n := by
  have h2 : (BitVec.ofNat 32 n ^^^ BitVec.allOnes 32).toNat = 4294967295 - n := by
    rw [BitVec.xor_allOnes, BitVec.toNat_not, BitVec.toNat_ofNat, Nat.mod_eq_of_lt h]
  rw [← h2, BitVec.toNat_xor, BitVec.toNat_allOnes, BitVec.toNat_ofNat, Nat.mod_eq_of_lt h]

theorem stepR (n : Nat) (h : n < 4294967296) : (if (Int.tmod (n : Int) 2) = 1 then Go.bits .xor .u32 ((Int.tdiv (n : Int) 2) % 4294967296) 3988292384 else ((Int.tdiv (n : Int) 2) % 4294967296)) = (stp n : Int) := by
  have e1 : Int.tmod (n : Int) 2 = ((n % 2 : Nat) : Int) := by rw [Int.tmod_eq_emod_of_nonneg (by omega)]; omega
  have e2 : (Int.tdiv (n : Int) 2) % 4294967296 = ((n / 2 : Nat) : Int) := by rw [Int.tdiv_eq_ediv_of_nonneg (by omega)]; omega
  rw [e1, e2]
  unfold stp
  rcases Nat.mod_two_eq_zero_or_one n with hz | hz
  · rw [hz, if_neg (by decide), if_neg (by decide)]; simp
  · rw [hz, if_pos (by decide), if_pos rfl]
    exact xor32 _ 3988292384 (by omega) (by decide)

theorem run_append (n : Nat) (l m : List UInt8) : run n (l ++ m) = run (run n l) m := by unfold run; rw [List.foldl_append]
theorem xor_twice (n : Nat) : n ^^^ 4294967295 ^^^ 4294967295 = n := by rw [Nat.xor_assoc, Nat.xor_self, Nat.xor_zero]


def ones : Nat := 4294967295
/-- The sum of a text, behind a sum. -/
def add (n : Nat) (l : List UInt8) : Nat := run (n ^^^ 4294967295) l ^^^ 4294967295
theorem xor_ones_lt (n : Nat) (h : n < 4294967296) : n ^^^ 4294967295 < 4294967296 := Nat.xor_lt_two_pow (n := 32) h (by decide)
theorem add_lt (n : Nat) (l : List UInt8) (h : n < 4294967296) : add n l < 4294967296 := xor_ones_lt _ (run_lt _ _ (xor_ones_lt n h))
theorem add_append (n : Nat) (l m : List UInt8) : add (add n l) m = add n (l ++ m) := by unfold add; rw [xor_twice, ← run_append]
theorem run_step (m : Nat) (l : List UInt8) (i : Nat) (h : i < l.length) : run m (l.drop i) = run (its 8 (m ^^^ (l[i]'h).toNat)) (l.drop (i + 1)) := by
  rw [List.drop_eq_getElem_cons h]; rfl
end Go.Crc
