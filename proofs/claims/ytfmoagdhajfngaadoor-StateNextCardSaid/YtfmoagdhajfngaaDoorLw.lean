/- Walks of layer 9's laws. -/
import Derived.Test.YtfmoagdhajfngaaDoorSl
namespace Go.Proofs.YtfmoagdhajfngaaDoor
open Go.RowKit Go.My Go.St

theorem base4 (w : World) : Calls Tryd.prog 10 #[.int .i64 4] w fun e w' => e = .returned (.tuple #[.int .u32 4, .int .i64 1]) ∧ w = w' :=
  (base_is 4 (by decide) w).mono fun e w' ⟨he, hw⟩ => ⟨he.trans (congrArg (fun x : Nat × Nat => Ending.returned (.tuple #[.int .u32 (x.1 : Int), .int .i64 (x.2 : Int)])) (show (base 4, sbits 4) = (4, 1) by decide +kernel)), hw⟩
theorem slot5 (w : World) : Calls Tryd.prog 9 #[.int .u32 5] w fun e w' => e = .returned (.int .i64 4) ∧ w = w' :=
  (slot_is 5 (by decide) w).mono fun e w' ⟨he, hw⟩ => ⟨he.trans (congrArg (fun n : Nat => Ending.returned (.int .i64 (n : Int))) (show slot 5 = 4 by decide +kernel)), hw⟩
theorem next02 (w : World) (hT : Tab w) : Calls Tryd.prog 6 #[.int .i64 0, .int .i64 2] w fun e w' => e = .returned (.int .i64 7) ∧ w = w' :=
  (next_is 0 2 (by decide) w hT).mono fun e w' ⟨he, hw⟩ => ⟨he.trans (congrArg (fun n : Int => Ending.returned (.int .i64 n)) (show nx 0 2 = 7 by decide +kernel)), hw⟩
theorem next81 (w : World) (hT : Tab w) : Calls Tryd.prog 6 #[.int .i64 8, .int .i64 1] w fun e w' => e = .returned (.int .i64 5) ∧ w = w' :=
  (next_is 8 1 (by decide) w hT).mono fun e w' ⟨he, hw⟩ => ⟨he.trans (congrArg (fun n : Int => Ending.returned (.int .i64 n)) (show nx 8 1 = 5 by decide +kernel)), hw⟩

set_option maxRecDepth 100000 in
theorem speaks09 (w : World) (hT : Tab w) : Calls Tryd.prog 5 #[] w fun e w' => e = .returned (.bool true) ∧ w = w' := by
  have HT := Lib.hid hT
  clear hT
  go_enter Tryd.func5, Tryd.ntmps5
  go_wp2_with (first | (go_at_call 10; refine (base4 _).mono ?_; rintro e w' ⟨rfl, rfl⟩) | (go_at_call 9; refine (slot5 _).mono ?_; rintro e w' ⟨rfl, rfl⟩) | (go_at_call 6; with_reducible refine (next02 _ HT.out).mono ?_; rintro e w' ⟨rfl, rfl⟩) | (go_at_call 6; with_reducible refine (next81 _ HT.out).mono ?_; rintro e w' ⟨rfl, rfl⟩) | (go_at_call 8; refine (literal_is _ _).mono ?_; rintro e w' ⟨rfl, rfl⟩))
  go_ret
  exact ⟨rfl, rfl⟩

set_option maxHeartbeats 2000000 in
set_option maxRecDepth 100000 in
theorem stateSlots_walk (d : Nat) (k n : Int) (hd : d < 4294967296) (hn : -9223372036854775808 ≤ n ∧ n ≤ 9223372036854775807) (w : World) (hT : Tab w) :
    Calls Tryd.prog 4 #[.int .u32 (d : Int), .int .i64 k, .int .i64 n] w fun e w' => e = .returned (.bool true) ∧ w = w' := by
  have hsp := slot_spec d hd
  have hs64 := slot_le d hd
  obtain ⟨q1, q2, q3, q4⟩ := hsp
  have HT := Lib.hid hT
  have Hd := Lib.hid hd
  obtain ⟨S, hS⟩ : ∃ S, slot d = S := ⟨_, rfl⟩
  obtain ⟨B, hB⟩ : ∃ B, base (slot d) = B := ⟨_, rfl⟩
  obtain ⟨C, hC⟩ : ∃ C, sbits (slot d) = C := ⟨_, rfl⟩
  have c9 : ∀ w, Calls Tryd.prog 9 #[.int .u32 (d : Int)] w fun e w' => e = .returned (.int .i64 (S : Int)) ∧ w = w' := fun w => by rw [← hS]; exact slot_is d hd w
  have c11 : ∀ w, Calls Tryd.prog 11 #[.int .u64 (d : Int)] w fun e w' => e = .returned (.int .i64 (S : Int)) ∧ w = w' := fun w => by rw [← hS]; exact refslot_is d hd w
  have c10 : ∀ w, Calls Tryd.prog 10 #[.int .i64 (S : Int)] w fun e w' => e = .returned (.tuple #[.int .u32 (B : Int), .int .i64 (C : Int)]) ∧ w = w' := fun w => by rw [← hB, ← hC, ← hS]; exact base_is _ hs64 w
  rw [hB] at q1 q2 q4
  rw [hC] at q2 q3
  rw [hS] at hs64
  have C9 := Lib.hid c9
  have C10 := Lib.hid c10
  have C11 := Lib.hid c11
  have e1 : decide ((d : Int) < (B : Int)) = false := by simp; omega
  have e1' : decide (d < B) = false := by simp; omega
  have e2 : decide ((C : Int) < 0) = false := by simp
  have e3 : decide ((30 : Int) < (C : Int)) = false := by simp; omega
  have e3' : decide (30 < C) = false := by simp; omega
  have hsub : ((d : Int) - (B : Int)) % 4294967296 = ((d - B : Nat) : Int) := by omega
  have hshl : ((2 : Int) ^ C) % 18446744073709551616 = ((2 ^ C : Nat) : Int) := by
    have h1 : ((2 : Int) ^ C) = ((2 ^ C : Nat) : Int) := by simp
    have h2 := Nat.pow_le_pow_right (show 0 < 2 by decide) q3
    rw [h1]; omega
  have hlt : ¬ IntKind.u64.wrap ((2 : Int) ^ C) ≤ (d : Int) - (B : Int) := by
    have h1 : ((2 : Int) ^ C) = ((2 ^ C : Nat) : Int) := by simp
    have h2 := Nat.pow_le_pow_right (show 0 < 2 by decide) q3
    rw [h1, IntWalk.u64_in _ (by omega)]
    omega
  clear hshl
  clear c9 c10 c11 hS hB hC hT hd q2 hs64
  by_cases hk : 0 ≤ k ∧ k < 64
  · obtain ⟨hk0, hk1⟩ := hk
    obtain ⟨K, rfl⟩ := Int.eq_ofNat_of_zero_le hk0
    have hK : K < 64 := by omega
    obtain ⟨B2, hB2⟩ : ∃ B2, base K = B2 := ⟨_, rfl⟩
    obtain ⟨C2, hC2⟩ : ∃ C2, sbits K = C2 := ⟨_, rfl⟩
    have c10 : ∀ w, Calls Tryd.prog 10 #[.int .i64 (K : Int)] w fun e w' => e = .returned (.tuple #[.int .u32 (B2 : Int), .int .i64 (C2 : Int)]) ∧ w = w' := fun w => by rw [← hB2, ← hC2]; exact base_is _ hK w
    have c12 : ∀ w, Calls Tryd.prog 12 #[.int .i64 (K : Int)] w fun e w' => e = .returned (.tuple #[.int .u64 (B2 : Int), .int .i64 (C2 : Int)]) ∧ w = w' := fun w => by rw [← hB2, ← hC2]; exact refbase_is _ hK w
    have hB3 : B2 < 4294967296 := by rw [← hB2]; exact base_lt K hK
    have K10 := Lib.hid c10
    have K12 := Lib.hid c12
    clear c10 c12 hB2 hC2
    by_cases hn6 : n < 6
    · by_cases hn2 : n < 2
      · have hmx : max n 2 = 2 := by omega
        go_enter Tryd.func4, Tryd.ntmps4
        go_wp2_with (first | (go_at_call 5; refine (speaks09 _ HT.out).mono ?_; rintro e w' ⟨rfl, rfl⟩) | (go_at_call 9; refine (C9.out _).mono ?_; rintro e w' ⟨rfl, rfl⟩) | (go_at_call 10; with_reducible refine (C10.out _).mono ?_; rintro e w' ⟨rfl, rfl⟩) | (go_at_call 11; refine (C11.out _).mono ?_; rintro e w' ⟨rfl, rfl⟩) | (go_at_call 10; refine (K10.out _).mono ?_; rintro e w' ⟨rfl, rfl⟩) | (go_at_call 12; refine (K12.out _).mono ?_; rintro e w' ⟨rfl, rfl⟩) | (go_at_call 13; refine (class_is _ _).mono ?_; rintro e w' ⟨rfl, rfl⟩))
        go_ret
        exact ⟨rfl, rfl⟩
      · have hmx : max n 2 = n := by omega
        go_enter Tryd.func4, Tryd.ntmps4
        go_wp2_with (first | (go_at_call 5; refine (speaks09 _ HT.out).mono ?_; rintro e w' ⟨rfl, rfl⟩) | (go_at_call 9; refine (C9.out _).mono ?_; rintro e w' ⟨rfl, rfl⟩) | (go_at_call 10; with_reducible refine (C10.out _).mono ?_; rintro e w' ⟨rfl, rfl⟩) | (go_at_call 11; refine (C11.out _).mono ?_; rintro e w' ⟨rfl, rfl⟩) | (go_at_call 10; refine (K10.out _).mono ?_; rintro e w' ⟨rfl, rfl⟩) | (go_at_call 12; refine (K12.out _).mono ?_; rintro e w' ⟨rfl, rfl⟩) | (go_at_call 13; refine (class_is _ _).mono ?_; rintro e w' ⟨rfl, rfl⟩))
        go_ret
        exact ⟨rfl, rfl⟩
    · go_enter Tryd.func4, Tryd.ntmps4
      go_wp2_with (first | (go_at_call 5; refine (speaks09 _ HT.out).mono ?_; rintro e w' ⟨rfl, rfl⟩) | (go_at_call 9; refine (C9.out _).mono ?_; rintro e w' ⟨rfl, rfl⟩) | (go_at_call 10; with_reducible refine (C10.out _).mono ?_; rintro e w' ⟨rfl, rfl⟩) | (go_at_call 11; refine (C11.out _).mono ?_; rintro e w' ⟨rfl, rfl⟩) | (go_at_call 10; refine (K10.out _).mono ?_; rintro e w' ⟨rfl, rfl⟩) | (go_at_call 12; refine (K12.out _).mono ?_; rintro e w' ⟨rfl, rfl⟩) | (go_at_call 13; refine (class_is _ _).mono ?_; rintro e w' ⟨rfl, rfl⟩))
      go_ret
      exact ⟨rfl, rfl⟩
  · have hk' : k < 0 ∨ 64 ≤ k := by omega
    have HK := Lib.hid hk'
    have k1 : 0 ≤ k → ¬ k < 64 := by omega
    by_cases hk0 : 0 ≤ k
    all_goals
      (first | have hk64 : ¬ k < 64 := k1 hk0 | skip)
      clear hk hk' k1
      by_cases hn6 : n < 6
      · by_cases hn2 : n < 2
        · have hmx : max n 2 = 2 := by omega
          go_enter Tryd.func4, Tryd.ntmps4
          go_wp2_with (first | (go_at_call 5; refine (speaks09 _ HT.out).mono ?_; rintro e w' ⟨rfl, rfl⟩) | (go_at_call 9; refine (C9.out _).mono ?_; rintro e w' ⟨rfl, rfl⟩) | (go_at_call 10; with_reducible refine (C10.out _).mono ?_; rintro e w' ⟨rfl, rfl⟩) | (go_at_call 11; refine (C11.out _).mono ?_; rintro e w' ⟨rfl, rfl⟩) | (go_at_call 10; refine (base_none _ HK.out _).mono ?_; rintro e w' ⟨rfl, rfl⟩) | (go_at_call 13; refine (class_is _ _).mono ?_; rintro e w' ⟨rfl, rfl⟩))
          go_ret
          exact ⟨rfl, rfl⟩
        · have hmx : max n 2 = n := by omega
          go_enter Tryd.func4, Tryd.ntmps4
          go_wp2_with (first | (go_at_call 5; refine (speaks09 _ HT.out).mono ?_; rintro e w' ⟨rfl, rfl⟩) | (go_at_call 9; refine (C9.out _).mono ?_; rintro e w' ⟨rfl, rfl⟩) | (go_at_call 10; with_reducible refine (C10.out _).mono ?_; rintro e w' ⟨rfl, rfl⟩) | (go_at_call 11; refine (C11.out _).mono ?_; rintro e w' ⟨rfl, rfl⟩) | (go_at_call 10; refine (base_none _ HK.out _).mono ?_; rintro e w' ⟨rfl, rfl⟩) | (go_at_call 13; refine (class_is _ _).mono ?_; rintro e w' ⟨rfl, rfl⟩))
          go_ret
          exact ⟨rfl, rfl⟩
      · go_enter Tryd.func4, Tryd.ntmps4
        go_wp2_with (first | (go_at_call 5; refine (speaks09 _ HT.out).mono ?_; rintro e w' ⟨rfl, rfl⟩) | (go_at_call 9; refine (C9.out _).mono ?_; rintro e w' ⟨rfl, rfl⟩) | (go_at_call 10; with_reducible refine (C10.out _).mono ?_; rintro e w' ⟨rfl, rfl⟩) | (go_at_call 11; refine (C11.out _).mono ?_; rintro e w' ⟨rfl, rfl⟩) | (go_at_call 10; refine (base_none _ HK.out _).mono ?_; rintro e w' ⟨rfl, rfl⟩) | (go_at_call 13; refine (class_is _ _).mono ?_; rintro e w' ⟨rfl, rfl⟩))
        go_ret
        exact ⟨rfl, rfl⟩
end Go.Proofs.YtfmoagdhajfngaaDoor
