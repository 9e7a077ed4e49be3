/- Plain facts on the sum of layer 1: bits that are turned within 32 in a row are found. -/
import Derived.Test.YtfmoagdhajfngaaCrcM
namespace Go.Crc
open Go.RowKit

theorem stp_xor (a b : Nat) : stp (a ^^^ b) = stp a ^^^ stp b := by
  have hd : (a ^^^ b) / 2 = a / 2 ^^^ b / 2 := by
    have h := Nat.shiftRight_xor_distrib (a := a) (b := b) (i := 1)
    simpa [Nat.shiftRight_eq_div_pow] using h
  have hm : (a ^^^ b) % 2 = (a % 2 + b % 2) % 2 := by
    have h1 : (a ^^^ b) % 2 = a % 2 ^^^ b % 2 := by
      have := Nat.xor_mod_two_pow (a := a) (b := b) (n := 1)
      simpa using this
    rw [h1]
    rcases Nat.mod_two_eq_zero_or_one a with ha | ha <;> rcases Nat.mod_two_eq_zero_or_one b with hb | hb <;> rw [ha, hb] <;> rfl
  unfold stp
  rw [hd, hm]
  rcases Nat.mod_two_eq_zero_or_one a with ha | ha <;> rcases Nat.mod_two_eq_zero_or_one b with hb | hb <;> rw [ha, hb]
  · simp
  · simp [Nat.xor_assoc]
  · simp only [Nat.reduceAdd, Nat.reduceMod, if_pos]
    simp
    rw [Nat.xor_assoc, Nat.xor_assoc]
    congr 1
    exact Nat.xor_comm _ _
  · simp only [Nat.reduceAdd, Nat.reduceMod]
    simp
    rw [Nat.xor_assoc, Nat.xor_comm 3988292384, Nat.xor_assoc, Nat.xor_self, Nat.xor_zero]

theorem its_xor (d : Nat) : ∀ a b, its d (a ^^^ b) = its d a ^^^ its d b := by
  induction d with
  | zero => exact fun a b => rfl
  | succ d ih => intro a b; show its d (stp (a ^^^ b)) = _; rw [stp_xor, ih]; rfl
theorem its_add (d e : Nat) : ∀ n, its (d + e) n = its e (its d n) := by
  induction d with
  | zero => intro n; rw [Nat.zero_add]; rfl
  | succ d ih => intro n; rw [Nat.succ_add]; exact ih (stp n)
theorem stp_two (m : Nat) : stp (2 * m) = m := by
  unfold stp
  rw [if_neg (by omega), Nat.xor_zero]
  omega
theorem its_pow (d : Nat) : ∀ v, its d (v * 2 ^ d) = v := by
  induction d with
  | zero => intro v; simp [its]
  | succ d ih =>
    intro v
    show its d (stp (v * 2 ^ (d + 1))) = v
    rw [Nat.pow_succ', show v * (2 * 2 ^ d) = 2 * (v * 2 ^ d) by rw [Nat.mul_left_comm], stp_two]
    exact ih v
theorem stp_zero (n : Nat) (h : n < 4294967296) (h0 : stp n = 0) : n = 0 := by
  unfold stp at h0
  rcases Nat.mod_two_eq_zero_or_one n with hz | hz
  · rw [hz, if_neg (by decide), Nat.xor_zero] at h0; omega
  · rw [hz, if_pos rfl] at h0
    have : n / 2 = 3988292384 := by
      have h1 : n / 2 ^^^ 3988292384 ^^^ 3988292384 = 0 ^^^ 3988292384 := by rw [h0]
      rwa [Nat.xor_assoc, Nat.xor_self, Nat.xor_zero, Nat.zero_xor] at h1
    omega
theorem its_zero (d : Nat) : ∀ n, n < 4294967296 → its d n = 0 → n = 0 := by
  induction d with
  | zero => exact fun n _ h => h
  | succ d ih => exact fun n h h0 => stp_zero n h (ih _ (stp_lt n h) h0)

/-- A text as one number, its first byte the lowest. -/
def num : List UInt8 → Nat
  | [] => 0
  | b :: l => b.toNat + 256 * num l
theorem byte_xor (b : UInt8) (W : Nat) : b.toNat + 256 * W = b.toNat ^^^ (W * 2 ^ 8) := by
  have h := b.toNat_lt
  have e : b.toNat + W * 2 ^ 8 = b.toNat ||| W * 2 ^ 8 := by
    rw [Nat.add_comm, Nat.or_comm, Nat.mul_comm, Nat.two_pow_add_eq_or_of_lt h]
  have e2 : b.toNat &&& (W * 2 ^ 8) = 0 := by
    apply Nat.eq_of_testBit_eq
    intro i
    rw [Nat.testBit_and, Nat.zero_testBit, Nat.mul_comm, Nat.testBit_two_pow_mul]
    by_cases hi : 8 ≤ i
    · rw [Nat.testBit_lt_two_pow (Nat.lt_of_lt_of_le h (Nat.pow_le_pow_right (by decide) hi))]; rfl
    · simp [hi]
  have e3 : b.toNat ^^^ (W * 2 ^ 8) = b.toNat ||| (W * 2 ^ 8) := by
    apply Nat.eq_of_testBit_eq
    intro i
    have := congrArg (fun n => n.testBit i) e2
    simp only [Nat.testBit_and, Nat.zero_testBit] at this
    rw [Nat.testBit_xor, Nat.testBit_or]
    cases h1 : b.toNat.testBit i <;> cases h2 : (W * 2 ^ 8).testBit i <;> simp_all
  rw [e3, ← e]
  omega
theorem run_num (l : List UInt8) : ∀ n, run n l = its (8 * l.length) (n ^^^ num l) := by
  induction l with
  | nil => intro n; simp [run, its, num]
  | cons b l ih =>
    intro n
    show run (its 8 (n ^^^ b.toNat)) l = _
    rw [ih, List.length_cons, show 8 * (l.length + 1) = 8 + 8 * l.length by omega, its_add]
    congr 1
    rw [num, byte_xor, ← Nat.xor_assoc, its_xor 8 (n ^^^ b.toNat), its_pow]
theorem num_lt (l : List UInt8) : num l < 2 ^ (8 * l.length) := by
  induction l with
  | nil => simp [num]
  | cons b l ih =>
    have h := b.toNat_lt
    rw [num, List.length_cons, show 8 * (l.length + 1) = 8 + 8 * l.length by omega, Nat.pow_add]
    have : num l + 1 ≤ 2 ^ (8 * l.length) := ih
    have h2 := Nat.mul_le_mul_left (2 ^ 8) this
    have e : 2 ^ 8 = 256 := rfl
    omega
theorem num_inj : ∀ (l m : List UInt8), l.length = m.length → num l = num m → l = m
  | [], [], _, _ => rfl
  | [], _ :: _, h, _ => by simp at h
  | _ :: _, [], h, _ => by simp at h
  | a :: l, b :: m, h, hn => by
    have ha := a.toNat_lt
    have hb := b.toNat_lt
    simp only [num] at hn
    have e1 : a.toNat = b.toNat := by omega
    have e2 : num l = num m := by omega
    rw [UInt8.toNat_inj.1 e1, num_inj l m (by simpa using h) e2]
theorem num_set : ∀ (l : List UInt8) (j r : Nat) (b : UInt8), j < l.length → b.toNat = (l.getD j 0).toNat ^^^ 2 ^ r → num (l.set j b) = num l ^^^ 2 ^ (8 * j + r)
  | [], j, r, b, h, _ => by simp at h
  | a :: l, 0, r, b, _, hb => by
    have e : (a :: l).set 0 b = b :: l := rfl
    simp only [List.getD_cons_zero] at hb
    rw [e, num, num, byte_xor, byte_xor, hb, Nat.mul_zero, Nat.zero_add, Nat.xor_assoc, Nat.xor_comm (2 ^ r), ← Nat.xor_assoc]
  | a :: l, j + 1, r, b, h, hb => by
    have e : (a :: l).set (j + 1) b = a :: l.set j b := rfl
    simp only [List.getD_cons_succ] at hb
    rw [e, num, num, num_set l j r b (by simpa using h) hb, byte_xor, byte_xor, show 8 * (j + 1) + r = (8 * j + r) + 8 by omega]
    rw [Nat.xor_assoc]
    congr 1
    have e8 : 2 ^ ((8 * j + r) + 8) = 2 ^ (8 * j + r) * 2 ^ 8 := Nat.pow_add _ _ _
    rw [e8, ← Nat.shiftLeft_eq, ← Nat.shiftLeft_eq, ← Nat.shiftLeft_eq, Nat.shiftLeft_xor_distrib]

/-- WHAT THE STATEMENT RESTS ON: where the texts differ by a number of 32 bits somewhere, their sums are alike just where they are. -/
theorem burst (s b : List UInt8) (n at_ v : Nat) (hl : b.length = s.length) (hv : v < 4294967296) (h : num b = num s ^^^ (v * 2 ^ at_)) :
    (add n b = add n s) ↔ b = s := by
  constructor
  · intro he
    have h1 : run (n ^^^ 4294967295) b = run (n ^^^ 4294967295) s := by
      have := congrArg (· ^^^ 4294967295) he
      simp only [add, xor_twice] at this
      exact this
    rw [run_num, run_num, hl] at h1
    have hx : num b ^^^ num s = v * 2 ^ at_ := by rw [h, Nat.xor_comm, ← Nat.xor_assoc, Nat.xor_self, Nat.zero_xor]
    have h2 : its (8 * s.length) (v * 2 ^ at_) = 0 := by
      rw [← hx, its_xor]
      have h3 : ∀ x, its (8 * s.length) (n ^^^ 4294967295 ^^^ x) = its (8 * s.length) (n ^^^ 4294967295) ^^^ its (8 * s.length) x := fun x => its_xor _ _ _
      rw [h3, h3] at h1
      have h4 := congrArg (its (8 * s.length) (n ^^^ 4294967295) ^^^ ·) h1
      simp only [← Nat.xor_assoc, Nat.xor_self, Nat.zero_xor] at h4
      rw [h4, Nat.xor_self]
    have hv0 : v = 0 := by
      rcases Nat.lt_or_ge (8 * s.length) at_ with hlt | hge
      · have hb : v * 2 ^ at_ < 2 ^ (8 * s.length) := by
          rw [← hx]
          exact Nat.xor_lt_two_pow (by have := num_lt b; rwa [hl] at this) (num_lt s)
        rcases Nat.eq_zero_or_pos v with h0 | h0
        · exact h0
        · have := Nat.pow_lt_pow_right (show 1 < 2 by decide) hlt
          have := Nat.mul_le_mul_right (2 ^ at_) h0
          omega
      · rw [show 8 * s.length = at_ + (8 * s.length - at_) by omega, its_add, its_pow] at h2
        exact its_zero _ v hv h2
    subst hv0
    rw [Nat.zero_mul, Nat.xor_zero] at h
    exact num_inj b s hl h
  · rintro rfl; rfl
end Go.Crc
