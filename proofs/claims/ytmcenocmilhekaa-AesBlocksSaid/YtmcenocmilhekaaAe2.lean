/- Walks of layer 25's reference: the product of two bytes, the boxes. -/
import Derived.Test.YtmcenocmilhekaaAe1
import Derived.Test.YtmcenocmilhekaaApp
namespace Go.Proofs.Ytmcenocmilhekaa
set_option linter.unusedVariables false
open Go.RowKit Go.My Go.Aes

theorem xorI (a b : Nat) (ha : a < 4294967296) (hb : b < 4294967296) : Go.bits .xor .i64 (a : Int) (b : Int) = ((a ^^^ b : Nat) : Int) := by
  have ha' : a % 2 ^ 64 = a := Nat.mod_eq_of_lt (by omega)
  have hb' : b % 2 ^ 64 = b := Nat.mod_eq_of_lt (by omega)
  show IntKind.wrap .i64 ((BitVec.ofInt 64 a ^^^ BitVec.ofInt 64 b).toNat : Int) = _
  simp only [BitVec.ofInt_natCast, BitVec.toNat_xor, BitVec.toNat_ofNat, ha', hb']
  have := Nat.xor_lt_two_pow (n := 32) ha hb
  rw [IntWalk.i64_in _ (by omega)]

set_option maxHeartbeats 2000000 in
set_option maxRecDepth 100000 in
theorem rproduct_is (x y : Nat) (hx : x < 256) (hy : y < 256) (w : World) : Calls Try.prog 14 #[.int .i64 (x : Int), .int .i64 (y : Int)] w fun e w' => e = .returned (.int .i64 (mul x y : Nat)) ∧ w = w' := by
  have hmul : mulG 8 x y 0 = mul x y := rfl
  obtain ⟨R, hR⟩ : ∃ R, mul x y = R := ⟨_, rfl⟩
  rw [hR] at hmul ⊢
  have Hmul := Lib.hid hmul
  clear hmul hR
  go_enter Try.func14, Try.ntmps14
  go_wp2
  go_loop [0, 1, 5, 6] (fun v0 v1 v5 v6 => ∃ i a b o : Nat, i ≤ 8 ∧ a < 256 ∧ b < 256 ∧ o < 256 ∧ v0 = .int .i64 (a : Int) ∧ v1 = .int .i64 (b : Int) ∧ v5 = .int .i64 (o : Int) ∧ v6 = .int .i64 (i : Int) ∧ Hid (mulG (8 - i) a b o = R)) (fun _ _ _ v6 => 8 - (intOf v6).toNat)
  case atStart => exact ⟨0, x, y, 0, by omega, hx, hy, by decide, rfl, rfl, rfl, rfl, Hmul⟩
  case round =>
    obtain ⟨i, a, b, o, hi, ha, hb, ho, rfl, rfl, rfl, rfl, hm⟩ := hrel
    by_cases hlt : i < 8
    · have hlI : (i : Int) < 8 := by omega
      have hm2 : mulG (8 - (i + 1)) (dbl a) (b / 2) (o ^^^ a * (b % 2)) = R := by
        rw [← hm.out, show 8 - i = (8 - (i + 1)) + 1 by omega]; rfl
      have hdl := dbl_lt a ha
      have hdr := dbl_ref a ha
      have hod : o ^^^ a * (b % 2) < 256 := Nat.xor_lt_two_pow (n := 8) ho (part_lt a b ha)
      have zo := xorI o a (by omega) (by omega)
      have Hm2 := Lib.hid hm2
      have Hdl := Lib.hid hdl
      have Hod := Lib.hid hod
      have ZO := Lib.hid zo
      clear hm hm2 hdl hod zo
      rcases Nat.mod_two_eq_zero_or_one b with hbz | hbz
      · by_cases h128 : 255 < a * 2
        · rw [if_pos h128] at hdr
          rw [hbz] at Hm2 Hod
          have hbI : (b : Int) % 2 = 0 := by omega
          rw [Nat.mul_zero, Nat.xor_zero] at Hm2 Hod
          have hcI :  ((255 : Int) < (a : Int) * 2) := by omega
          have zd := xorI (a * 2 - 256) 27 (by omega) (by decide)
          rw [← hdr, show ((a * 2 - 256 : Nat) : Int) = (a : Int) * 2 - 256 by omega] at zd
          have ZD := Lib.hid zd
          clear zd
          have Hdr := Lib.hid hdr
          clear hdr hbz h128
          go_wp2
          (try rw [ZD.out])
          go_round
          case rel => exact ⟨i + 1, dbl a, b / 2, _, by omega, Hdl.out, by omega, Hod.out, by first | rfl | exact congrArg _ ZD.out, by go_num, rfl, by go_num, Hm2⟩
          case measure => simp [intOf]; omega
        · rw [if_neg h128] at hdr
          rw [hbz] at Hm2 Hod
          have hbI : (b : Int) % 2 = 0 := by omega
          rw [Nat.mul_zero, Nat.xor_zero] at Hm2 Hod
          have hcI : ¬ ((255 : Int) < (a : Int) * 2) := by omega
          have Hdr := Lib.hid hdr
          clear hdr hbz h128
          go_wp2
          go_round
          case rel => exact ⟨i + 1, dbl a, b / 2, _, by omega, Hdl.out, by omega, Hod.out, by rw [Hdr.out]; go_num, by go_num, rfl, by go_num, Hm2⟩
          case measure => simp [intOf]; omega
      · by_cases h128 : 255 < a * 2
        · rw [if_pos h128] at hdr
          rw [hbz] at Hm2 Hod
          have hbI : (b : Int) % 2 = 1 := by omega
          rw [Nat.mul_one] at Hm2 Hod
          have hcI :  ((255 : Int) < (a : Int) * 2) := by omega
          have zd := xorI (a * 2 - 256) 27 (by omega) (by decide)
          rw [← hdr, show ((a * 2 - 256 : Nat) : Int) = (a : Int) * 2 - 256 by omega] at zd
          have ZD := Lib.hid zd
          clear zd
          have Hdr := Lib.hid hdr
          clear hdr hbz h128
          go_wp2
          rw [ZO.out]
          (try rw [ZD.out])
          go_round
          case rel => exact ⟨i + 1, dbl a, b / 2, _, by omega, Hdl.out, by omega, Hod.out, by first | rfl | exact congrArg _ ZD.out, by go_num, rfl, by go_num, Hm2⟩
          case measure => simp [intOf]; omega
        · rw [if_neg h128] at hdr
          rw [hbz] at Hm2 Hod
          have hbI : (b : Int) % 2 = 1 := by omega
          rw [Nat.mul_one] at Hm2 Hod
          have hcI : ¬ ((255 : Int) < (a : Int) * 2) := by omega
          have Hdr := Lib.hid hdr
          clear hdr hbz h128
          go_wp2
          rw [ZO.out]
          go_round
          case rel => exact ⟨i + 1, dbl a, b / 2, _, by omega, Hdl.out, by omega, Hod.out, by rw [Hdr.out]; go_num, by go_num, rfl, by go_num, Hm2⟩
          case measure => simp [intOf]; omega
    · obtain rfl : i = 8 := by omega
      have hfin : o = R := by rw [← hm.out]; rfl
      subst hfin
      clear hlt hi hm
      go_wp2
      go_ret
      exact ⟨rfl, rfl⟩
end Go.Proofs.Ytmcenocmilhekaa
