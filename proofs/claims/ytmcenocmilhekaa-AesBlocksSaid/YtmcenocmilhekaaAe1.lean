/- Walks of layer 25 (aes): bytes as polynomials. -/
import Derived.Test.YtmcenocmilhekaaProg
import Derived.Test.YtmcenocmilhekaaAeM
import Derived.Test.YtmcenocmilhekaaFr
import Derived.WalkKit
import Derived.KernelRfl
import Derived.Deep.QuietTactic
import Derived.BigQuiet
import Derived.Lib.Hide
import Derived.WalkSpells
import Derived.Laws.BitsLemmas
namespace Go.Proofs.Ytmcenocmilhekaa
set_option linter.unusedVariables false
open Go.RowKit Go.My Go.Aes

theorem xorB (a b : Nat) (ha : a < 256) (hb : b < 256) : Go.bits .xor .u8 (a : Int) (b : Int) = ((a ^^^ b : Nat) : Int) := by
  have ha' : a % 2 ^ 8 = a := Nat.mod_eq_of_lt ha
  have hb' : b % 2 ^ 8 = b := Nat.mod_eq_of_lt hb
  show IntKind.wrap .u8 ((BitVec.ofInt 8 a ^^^ BitVec.ofInt 8 b).toNat : Int) = _
  simp only [BitVec.ofInt_natCast, BitVec.toNat_xor, BitVec.toNat_ofNat, ha', hb']
  have := Nat.xor_lt_two_pow (n := 8) ha hb
  rw [IntKind.wrap_u8]
  omega
theorem andB (a : Nat) (ha : a < 256) : Go.bits .and .u8 (a : Int) 1 = ((a % 2 : Nat) : Int) := by
  have h := (bits_nat .u8 8 (by decide) (fun n h0 h1 => by rw [IntKind.wrap_u8]; omega) a 1 ha (by decide)).1
  rw [show ((1 : Nat) : Int) = 1 from rfl] at h
  rw [h, Nat.and_one_is_mod]
theorem orB (a b : Nat) (ha : a < 256) (hb : b < 256) : Go.bits .or .u8 (a : Int) (b : Int) = ((a ||| b : Nat) : Int) :=
  (bits_nat .u8 8 (by decide) (fun n h0 h1 => by rw [IntKind.wrap_u8]; omega) a b ha hb).2

set_option maxRecDepth 100000 in
theorem double_is (x : Nat) (hx : x < 256) (w : World) : Calls Try.prog 24 #[.int .u8 (x : Int)] w fun e w' => e = .returned (.int .u8 (dbl x : Nat)) ∧ w = w' := by
  have z : Go.bits .xor .u8 ((x : Int) * 2 % 256) ((x : Int) / 128 * 27) = (dbl x : Nat) := by
    rw [show (x : Int) * 2 % 256 = ((x * 2 % 256 : Nat) : Int) by omega, show (x : Int) / 128 * 27 = ((x / 128 * 27 : Nat) : Int) by omega, xorB _ _ (Nat.mod_lt _ (by decide)) (by omega)]
    rfl
  have z2 : Go.bits .xor .u8 ((x : Int) * 2 % 256) (27 * ((x : Int) / 128)) = (dbl x : Nat) := by rw [Int.mul_comm 27]; exact z
  have hxI : (x : Int) < 256 := by omega
  go_enter Try.func24, Try.ntmps24
  go_wp2
  go_ret
  exact ⟨rfl, rfl⟩

set_option maxHeartbeats 2000000 in
set_option maxRecDepth 100000 in
theorem product_is (x y : Nat) (hx : x < 256) (hy : y < 256) (w : World) : Calls Try.prog 26 #[.int .u8 (x : Int), .int .u8 (y : Int)] w fun e w' => e = .returned (.int .u8 (mul x y : Nat)) ∧ w = w' := by
  have hmul : mulG 8 x y 0 = mul x y := rfl
  obtain ⟨R, hR⟩ : ∃ R, mul x y = R := ⟨_, rfl⟩
  rw [hR] at hmul ⊢
  have Hmul := Lib.hid hmul
  clear hmul hR
  go_enter Try.func26, Try.ntmps26
  go_wp2
  go_loop [0, 1, 5] (fun v0 v1 v5 => ∃ n a b o : Nat, a < 256 ∧ b < 2 ^ n ∧ b < 256 ∧ o < 256 ∧ v0 = .int .u8 (a : Int) ∧ v1 = .int .u8 (b : Int) ∧ v5 = .int .u8 (o : Int) ∧ Hid (mulG n a b o = R)) (fun _ v1 _ => (intOf v1).toNat)
  case atStart => exact ⟨8, x, y, 0, hx, hy, hy, by decide, rfl, rfl, rfl, Hmul⟩
  case round =>
    obtain ⟨n, a, b, o, ha, hb, hb2, ho, rfl, rfl, rfl, hm⟩ := hrel
    by_cases h0 : b = 0
    · subst h0
      have hfin : o = R := by rw [← hm.out, mulG_zero]
      subst hfin
      go_wp2
      go_ret
      exact ⟨rfl, rfl⟩
    · have hpos : (0 : Int) < (b : Int) := by omega
      obtain ⟨n, rfl⟩ : ∃ k, n = k + 1 := ⟨n - 1, by
        rcases Nat.eq_zero_or_pos n with h | h
        · subst h; simp at hb; omega
        · omega⟩
      have hb3 : b / 2 < 2 ^ n := by rw [Nat.pow_succ] at hb; omega
      have hm2 : mulG n (dbl a) (b / 2) (o ^^^ a * (b % 2)) = R := hm.out
      have z0 := andB b hb2
      have hpl := part_lt a b ha
      have z1 : Go.bits .xor .u8 (o : Int) ((a : Int) * ((b % 2 : Nat) : Int) % 256) = ((o ^^^ a * (b % 2) : Nat) : Int) := by
        rw [show (a : Int) * ((b % 2 : Nat) : Int) % 256 = ((a * (b % 2) : Nat) : Int) by rw [← Int.natCast_mul]; omega, xorB o _ ho hpl]
      have hod : o ^^^ a * (b % 2) < 256 := Nat.xor_lt_two_pow (n := 8) ho hpl
      have hdl := dbl_lt a ha
      have hd := double_is a ha
      have Hd := Lib.hid hd
      have Hm2 := Lib.hid hm2
      have Z1 := Lib.hid z1
      have Z0 := Lib.hid z0
      have Hb3 := Lib.hid hb3
      have Hod := Lib.hid hod
      have Hdl := Lib.hid hdl
      clear hm hm2 hd z1 z0 hb3 hb hod hdl hpl
      go_wp2_with (go_at_call 24; refine (Hd.out _).mono ?_; rintro e w' ⟨rfl, rfl⟩)
      rw [Z0.out, Z1.out]
      go_round
      case rel => exact ⟨n, dbl a, b / 2, _, Hdl.out, Hb3.out, by omega, Hod.out, rfl, by go_num, rfl, Hm2⟩
      case measure => simp [intOf]; omega

set_option maxHeartbeats 2000000 in
set_option maxRecDepth 100000 in
theorem inverse_is (x : Nat) (hx : x < 256) (w : World) : Calls Try.prog 21 #[.int .u8 (x : Int)] w fun e w' => e = .returned (.int .u8 (inv x : Nat)) ∧ w = w' := by
  have Hx := Lib.hid hx
  clear hx
  go_enter Try.func21, Try.ntmps21
  go_wp2
  go_loop [3, 4] (fun v3 v4 => ∃ n : Nat, n ≤ 254 ∧ v3 = .int .u8 (invN x n : Nat) ∧ v4 = .int .i64 (n : Int)) (fun _ v4 => 254 - (intOf v4).toNat)
  case atStart => exact ⟨0, by omega, rfl, rfl⟩
  case round =>
    obtain ⟨n, hn, rfl, rfl⟩ := hrel
    by_cases hlt : n < 254
    · have hp := product_is (invN x n) x (invN_lt x n) Hx.out
      have hnx : mul (invN x n) x = invN x (n + 1) := rfl
      rw [hnx] at hp
      have HP := Lib.hid hp
      have hlI : (n : Int) < 254 := by omega
      clear hp hnx
      generalize invN x n = a at *
      go_wp2_with (go_at_call 26; refine (HP.out _).mono ?_; rintro e w' ⟨rfl, rfl⟩)
      go_round
      case rel => exact ⟨n + 1, by omega, rfl, by go_num⟩
      case measure => simp [intOf]; omega
    · obtain rfl : n = 254 := by omega
      clear hlt hn
      go_wp2
      go_ret
      exact ⟨rfl, rfl⟩

set_option maxRecDepth 100000 in
theorem rotl8_is (x n : Nat) (hx : x < 256) (hn : n < 5) (w : World) : Calls Try.prog 22 #[.int .u8 (x : Int), .int .i64 (n : Int)] w fun e w' => e = .returned (.int .u8 (rot8 x n : Nat)) ∧ w = w' := by
  have hk : Go.bits .and .u64 (n : Int) 7 = (n : Int) := by
    have key : ∀ n, n < 5 → n &&& 7 = n := by decide
    have h := (bits_nat .u64 8 (by decide) (fun n h0 h1 => by rw [IntKind.wrap_u64]; omega) n 7 (by omega) (by decide)).1
    rw [show ((7 : Nat) : Int) = 7 from rfl] at h
    rw [h, key n hn]
  have o : Go.bits .or .u8 ((x : Int) * 2 ^ n % 256) ((x : Int) / 2 ^ (8 - n)) = ((rot8 x n : Nat) : Int) := by
    rw [show (x : Int) * 2 ^ n % 256 = ((x * 2 ^ n % 256 : Nat) : Int) by simp, show (x : Int) / 2 ^ (8 - n) = ((x / 2 ^ (8 - n) : Nat) : Int) by simp, orB _ _ (Nat.mod_lt _ (by decide)) (Nat.lt_of_le_of_lt (Nat.div_le_self _ _) hx)]
    rfl
  have O := Lib.hid o
  clear o hx
  go_enter Try.func22, Try.ntmps22
  go_wp2
  rw [O.out]
  go_ret
  exact ⟨rfl, rfl⟩

set_option maxHeartbeats 2000000 in
set_option maxRecDepth 100000 in
theorem box_is (x : Nat) (hx : x < 256) (w : World) : Calls Try.prog 15 #[.int .u8 (x : Int)] w fun e w' => e = .returned (.int .u8 (box x : Nat)) ∧ w = w' := by
  have hi := inverse_is x hx
  have hyl : inv x < 256 := invN_lt x 254
  have hbx : box x = boxN (inv x) 5 := rfl
  rw [hbx]
  have HI := Lib.hid hi
  clear hi hbx
  generalize inv x = y at *
  have Hy := Lib.hid hyl
  clear hyl hx
  go_enter Try.func15, Try.ntmps15
  go_wp2_with (go_at_call 21; refine (HI.out _).mono ?_; rintro e w' ⟨rfl, rfl⟩)
  go_loop [4, 5, 8] (fun v4 _ v8 => ∃ n : Nat, n ≤ 5 ∧ v4 = .int .u8 (boxN y n : Nat) ∧ v8 = .int .i64 (n : Int)) (fun _ _ v8 => 5 - (intOf v8).toNat)
  case atStart => exact ⟨0, by omega, rfl, rfl⟩
  case round =>
    obtain ⟨n, hn, rfl, rfl⟩ := hrel
    by_cases hlt : n < 5
    · have hp := rotl8_is y n Hy.out hlt
      have hz := xorB (boxN y n) (rot8 y n) (boxN_lt y n Hy.out) (rot8_lt y n Hy.out)
      have hnx : boxN y n ^^^ rot8 y n = boxN y (n + 1) := rfl
      rw [hnx] at hz
      have HP := Lib.hid hp
      have hlI : (n : Int) < 5 := by omega
      have HZ := Lib.hid hz
      clear hp hnx hz
      generalize boxN y n = a at *
      generalize rot8 y n = r at *
      go_wp2_with (go_at_call 22; refine (HP.out _).mono ?_; rintro e w' ⟨rfl, rfl⟩)
      rw [HZ.out]
      go_round
      case rel => exact ⟨n + 1, by omega, rfl, by go_num⟩
      case measure => simp [intOf]; omega
    · obtain rfl : n = 5 := by omega
      clear hlt hn
      go_wp2
      go_ret
      exact ⟨rfl, rfl⟩
end Go.Proofs.Ytmcenocmilhekaa
