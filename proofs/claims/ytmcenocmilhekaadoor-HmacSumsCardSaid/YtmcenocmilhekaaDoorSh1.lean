/- Walks of layer 23 (sha): words turned. -/
import Derived.Test.YtmcenocmilhekaaDoorProg
import Derived.Test.YtmcenocmilhekaaDoorShM
import Derived.Test.YtmcenocmilhekaaDoorFr
import Derived.WalkKit
import Derived.KernelRfl
import Derived.Deep.QuietTactic
import Derived.BigQuiet
import Derived.Lib.Hide
import Derived.WalkSpells
import Derived.Laws.BitsLemmas
namespace Go.Proofs.YtmcenocmilhekaaDoor
set_option linter.unusedVariables false
open Go.RowKit Go.My Go.Sha

theorem ror_lt (x n : Nat) (hx : x < 4294967296) (hn : n ≤ 32) : ror x n < 4294967296 := by
  unfold ror
  have hp : (2 : Nat) ^ 32 = 2 ^ n * 2 ^ (32 - n) := by rw [← Nat.pow_add]; congr 1; omega
  have h32 : (4294967296 : Nat) = 2 ^ n * 2 ^ (32 - n) := by rw [← hp]
  have h1 : x / 2 ^ n < 2 ^ (32 - n) := Nat.div_lt_of_lt_mul (by omega)
  have h2 : x % 2 ^ n < 2 ^ n := Nat.mod_lt _ (Nat.two_pow_pos n)
  rw [h32]
  calc x / 2 ^ n + x % 2 ^ n * 2 ^ (32 - n) < 2 ^ (32 - n) + x % 2 ^ n * 2 ^ (32 - n) := by omega
    _ = (x % 2 ^ n + 1) * 2 ^ (32 - n) := by rw [Nat.add_mul]; omega
    _ ≤ 2 ^ n * 2 ^ (32 - n) := Nat.mul_le_mul_right _ h2
theorem ror_zero (x : Nat) : ror x 0 = x := by simp [ror, Nat.mod_one]
theorem ror_succ (x n : Nat) (hn : n < 32) : ror x (n + 1) = (ror x n / 2 + ror x n % 2 * 2147483648) := by
  unfold ror
  have e1 : (2 : Nat) ^ (32 - n) = 2 * 2 ^ (32 - (n + 1)) := by rw [← Nat.pow_succ']; congr 1; omega
  have e2 : (2 : Nat) ^ (n + 1) = 2 ^ n * 2 := Nat.pow_succ 2 n
  have e3 : (2147483648 : Nat) = 2 ^ n * 2 ^ (32 - (n + 1)) := by rw [← Nat.pow_add]; rw [show n + (32 - (n + 1)) = 31 by omega]
  rw [e2, ← Nat.div_div_eq_div_mul, Nat.mod_mul, e1]
  generalize x % 2 ^ n = r
  generalize x / 2 ^ n = q at *
  generalize hP : 2 ^ (32 - (n + 1)) = P at *
  rw [e3]
  generalize 2 ^ n = N at *
  have a1 : (q + r * (2 * P)) / 2 = q / 2 + r * P := by
    rw [show r * (2 * P) = 2 * (r * P) by rw [Nat.mul_left_comm]]; omega
  have a2 : (q + r * (2 * P)) % 2 = q % 2 := by
    rw [show r * (2 * P) = 2 * (r * P) by rw [Nat.mul_left_comm]]; omega
  rw [a1, a2, Nat.add_mul, Nat.add_assoc, Nat.mul_comm N, Nat.mul_assoc]
theorem or32 (a b : Nat) (ha : a < 4294967296) (hb : b < 4294967296) : Go.bits .or .u32 (a : Int) (b : Int) = ((a ||| b : Nat) : Int) :=
  (bits_nat .u32 32 (by decide) (fun n h0 h1 => by rw [IntKind.wrap_u32]; omega) a b ha hb).2
theorem and32 (a b : Nat) (ha : a < 4294967296) (hb : b < 4294967296) : Go.bits .and .u32 (a : Int) (b : Int) = ((a &&& b : Nat) : Int) :=
  (bits_nat .u32 32 (by decide) (fun n h0 h1 => by rw [IntKind.wrap_u32]; omega) a b ha hb).1
theorem xor32 (a b : Nat) (ha : a < 4294967296) (hb : b < 4294967296) : Go.bits .xor .u32 (a : Int) (b : Int) = ((a ^^^ b : Nat) : Int) := by
  have ha' : a % 2 ^ 32 = a := Nat.mod_eq_of_lt ha
  have hb' : b % 2 ^ 32 = b := Nat.mod_eq_of_lt hb
  show IntKind.wrap .u32 ((BitVec.ofInt 32 a ^^^ BitVec.ofInt 32 b).toNat : Int) = _
  simp only [BitVec.ofInt_natCast, BitVec.toNat_xor, BitVec.toNat_ofNat, ha', hb']
  have := Nat.xor_lt_two_pow (n := 32) ha hb
  rw [IntKind.wrap_u32]
  omega
theorem ror_or (x n m : Nat) (hx : x < 4294967296) (hm : n + m = 32) : x * 2 ^ m % 4294967296 ||| x / 2 ^ n = ror x n := by
  have h32 : (4294967296 : Nat) = 2 ^ n * 2 ^ m := by rw [← Nat.pow_add, hm]
  have e : x * 2 ^ m % 4294967296 = 2 ^ m * (x % 2 ^ n) := by
    rw [h32, Nat.mul_mod_mul_right, Nat.mul_comm]
  have h1 : x / 2 ^ n < 2 ^ m := Nat.div_lt_of_lt_mul (by omega)
  rw [e, ← Nat.two_pow_add_eq_or_of_lt h1]
  unfold ror
  rw [show 32 - n = m by omega, Nat.add_comm, Nat.mul_comm]

set_option maxRecDepth 100000 in
theorem rotl_is (x n m : Nat) (hx : x < 4294967296) (hm : n + m = 32) (k : Int) (hk : Go.bits .and .u64 (IntKind.u64.wrap k) 31 = (m : Int)) (w : World) :
    Calls Tryd.prog 28 #[.int .u32 (x : Int), .int .i64 k] w fun e w' => e = .returned (.int .u32 (ror x n : Nat)) ∧ w = w' := by
  have e1 : (32 - (m : Int)) = (n : Int) := by omega
  have o : Go.bits .or .u32 ((x : Int) * 2 ^ m % 4294967296) ((x : Int) / 2 ^ n) = ((ror x n : Nat) : Int) := by
    rw [show (x : Int) * 2 ^ m % 4294967296 = ((x * 2 ^ m % 4294967296 : Nat) : Int) by simp, show (x : Int) / 2 ^ n = ((x / 2 ^ n : Nat) : Int) by simp, or32 _ _ (Nat.mod_lt _ (by decide)) (Nat.lt_of_le_of_lt (Nat.div_le_self _ _) hx), ror_or x n m hx hm]
  have hn : (n : Int) % 18446744073709551616 = n := by omega
  have hn2 : IntKind.u64.wrap (n : Int) = n := by rw [IntKind.wrap_u64]; omega
  generalize ror x n = R at *
  have O := Lib.hid o
  clear o hx
  go_enter Tryd.func28, Tryd.ntmps28
  go_wp2
  rw [O.out]
  go_ret
  exact ⟨rfl, rfl⟩

set_option maxRecDepth 100000 in
theorem turned_is (x n : Nat) (hx : x < 4294967296) (hn2 : n < 32) (w : World) :
    Calls Tryd.prog 21 #[.int .u32 (x : Int), .int .i64 (n : Int)] w fun e w' => e = .returned (.int .u32 (ror x n : Nat)) ∧ w = w' := by
  have Hx := Lib.hid hx
  clear hx
  go_enter Tryd.func21, Tryd.ntmps21
  go_wp2
  go_loop [0, 5] (fun v0 v5 => ∃ i m : Nat, i ≤ n ∧ Hid (m < 4294967296) ∧ Hid (m = ror x i) ∧ v0 = .int .u32 (m : Int) ∧ v5 = .int .i64 (i : Int)) (fun _ v5 => n - (intOf v5).toNat)
  case atStart => exact ⟨0, x, Nat.zero_le _, Hx, (ror_zero x).symm, rfl, rfl⟩
  case round =>
    obtain ⟨i, m, hi, hm, hr, rfl, rfl⟩ := hrel
    by_cases hlt : i < n
    · go_wp2
      go_round
      case rel =>
        have h1 := ror_succ x i (by omega)
        have h2 := ror_lt x (i + 1) Hx.out (by omega)
        have h3 : ((m : Int) / 2 % 4294967296 + (m : Int) % 2 * 2147483648) % 4294967296 = ((ror x (i + 1) : Nat) : Int) := by
          rw [h1] at h2 ⊢
          rw [← hr.out] at h2 ⊢
          omega
        exact ⟨i + 1, ror x (i + 1), by omega, h2, rfl, congrArg _ h3, by go_num⟩
      case measure => simp [intOf]; omega
    · obtain rfl : i = n := by omega
      go_wp2
      go_ret
      exact ⟨congrArg (fun t : Nat => Ending.returned (.int .u32 (t : Int))) hr.out, rfl⟩
end Go.Proofs.YtmcenocmilhekaaDoor
