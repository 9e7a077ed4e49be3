/- Walks of layer 9 (state): slots. -/
import Derived.Test.YtfmoagdhajfngaaDoorSt
import Derived.Test.YtfmoagdhajfngaaDoorStM
import Derived.Test.YtfmoagdhajfngaaDoorShelf
import Derived.Laws.BitsLemmas
namespace Go.Proofs.YtfmoagdhajfngaaDoor
open Go.RowKit Go.My Go.St

theorem and1_32 (a : Nat) (ha : a < 4294967296) : Go.bits .and .u32 (a : Int) 1 = ((a % 2 : Nat) : Int) := by
  have h := (bits_nat .u32 32 (by decide) (fun n h0 h1 => by rw [IntKind.wrap_u32]; omega) a 1 ha (by decide)).1
  rw [show ((1 : Nat) : Int) = 1 from rfl] at h
  rw [h, Nat.and_one_is_mod]

set_option maxRecDepth 100000 in
theorem slot_small (d : Nat) (h : d < 4) (w : World) : Calls Tryd.prog 9 #[.int .u32 (d : Int)] w fun e w' => e = .returned (.int .i64 (slot d : Nat)) ∧ w = w' := by
  have e : slot d = d := by unfold slot; rw [if_pos h]
  rw [e]
  go_enter Tryd.func9, Tryd.ntmps9
  go_wp2
  go_ret
  exact ⟨rfl, rfl⟩

theorem len32_is (d : Nat) (h : 4 ≤ d) (h2 : d < 4294967296) (w : World) : Calls Tryd.prog 14 #[.int .u32 (d : Int)] w fun e w' => e = .returned (.int .i64 ((lg d : Int) + 1)) ∧ w = w' :=
  (Tryd.bits_Len32 d w (by omega) (by omega)).mono fun e w' ⟨he, hw⟩ => ⟨he.trans (by
    have := (lg_spec d (by omega) h2).2.2.1
    rw [Int.toNat_natCast, this]; rfl), hw.symm⟩

set_option maxRecDepth 100000 in
theorem slot_large (d : Nat) (h : 4 ≤ d) (h2 : d < 4294967296) (w : World) : Calls Tryd.prog 9 #[.int .u32 (d : Int)] w fun e w' => e = .returned (.int .i64 (slot d : Nat)) ∧ w = w' := by
  have e : slot d = 2 * lg d + d / 2 ^ (lg d - 1) % 2 := by unfold slot; rw [if_neg (by omega)]
  have hl2 := lg_two d h h2
  obtain ⟨_, _, _, hl31⟩ := lg_spec d (by omega) h2
  have hsh : d / 2 ^ (lg d - 1) < 4294967296 := Nat.lt_of_le_of_lt (Nat.div_le_self _ _) h2
  have hand := and1_32 _ hsh
  have hlen := len32_is d h h2
  have Hlen := Lib.hid hlen
  have He := Lib.hid e
  have Hand := Lib.hid hand
  have Hsh := Lib.hid hsh
  have h4 : ¬ (d : Int) < 4 := by omega
  clear hlen e hand hsh
  generalize hL : lg d = L at *
  have HL := Lib.hid hL
  clear hL h h2
  go_enter Tryd.func9, Tryd.ntmps9
  go_wp2_with (go_at_call 14; refine (Hlen.out _).mono ?_; rintro e w' ⟨rfl, rfl⟩)
  go_ret
  refine ⟨congrArg (fun t => Ending.returned (.int .i64 t)) ?_, rfl⟩
  have hc : ((d : Int) / 2 ^ (L - 1)) = ((d / 2 ^ (L - 1) : Nat) : Int) := by simp
  rw [hc, Hand.out, He.out]
  have : d / 2 ^ (L - 1) % 2 < 2 := Nat.mod_lt _ (by decide)
  generalize d / 2 ^ (L - 1) % 2 = b at *
  unfold wrap64
  omega

theorem slot_is (d : Nat) (h2 : d < 4294967296) (w : World) : Calls Tryd.prog 9 #[.int .u32 (d : Int)] w fun e w' => e = .returned (.int .i64 (slot d : Nat)) ∧ w = w' := by
  by_cases h : d < 4
  · exact slot_small d h w
  · exact slot_large d (by omega) h2 w

set_option maxRecDepth 100000 in
theorem base_none (k : Int) (h : k < 0 ∨ 64 ≤ k) (w : World) : Calls Tryd.prog 10 #[.int .i64 k] w fun e w' => e = .returned (.tuple #[.int .u32 0, .int .i64 0]) ∧ w = w' := by
  by_cases h1 : k < 0
  · clear h
    go_enter Tryd.func10, Tryd.ntmps10
    go_wp2
    go_ret2
    exact ⟨rfl, rfl⟩
  · have h2 : 64 ≤ k := by omega
    clear h
    go_enter Tryd.func10, Tryd.ntmps10
    go_wp2
    go_ret2
    exact ⟨rfl, rfl⟩

set_option maxRecDepth 100000 in
theorem base_is (k : Nat) (h : k < 64) (w : World) : Calls Tryd.prog 10 #[.int .i64 (k : Int)] w fun e w' => e = .returned (.tuple #[.int .u32 (base k : Nat), .int .i64 (sbits k : Nat)]) ∧ w = w' := by
  have hb := base_lt k h
  by_cases h4 : k < 4
  · have e1 : base k = k := by unfold base; rw [if_pos h4]
    have e2 : sbits k = 0 := by unfold sbits; rw [if_pos h4]
    rw [e1, e2]
    clear e1 e2 hb
    go_enter Tryd.func10, Tryd.ntmps10
    go_wp2
    go_ret2
    exact ⟨rfl, rfl⟩
  · have e1 : base k = (2 + k % 2) * 2 ^ (k / 2 - 1) := by unfold base; rw [if_neg h4]
    have e2 : sbits k = k / 2 - 1 := by unfold sbits; rw [if_neg h4]
    have E1 := Lib.hid e1
    have E2 := Lib.hid e2
    have Hb := Lib.hid hb
    clear e1 e2 hb
    go_enter Tryd.func10, Tryd.ntmps10
    go_wp2
    go_ret2
    refine ⟨congrArg Ending.returned ?_, rfl⟩
    have hb := Hb.out
    have ec : ((2 + (k : Int) % 2) * 2 ^ (k / 2 - 1)) % 4294967296 = ((base k : Nat) : Int) := by
      have e := E1.out
      have e3 : ((base k : Nat) : Int) = (2 + (k : Int) % 2) * 2 ^ (k / 2 - 1) := by rw [e]; simp
      rw [← e3]; omega
    have ed : (k : Int) / 2 - 1 = ((sbits k : Nat) : Int) := by rw [E2.out]; omega
    show Value.tuple #[.int .u32 (((2 + (k : Int) % 2) * 2 ^ (k / 2 - 1)) % 4294967296), .int .i64 ((k : Int) / 2 - 1)] = _
    rw [ec, ed]

set_option maxRecDepth 100000 in
theorem class_is (n : Int) (w : World) : Calls Tryd.prog 13 #[.int .i64 n] w fun e w' => e = .returned (.int .i64 (if n < 6 then (if n < 2 then 0 else n - 2) else 3)) ∧ w = w' := by
  by_cases h2 : n < 2
  · go_enter Tryd.func13, Tryd.ntmps13
    go_wp2
    go_ret
    exact ⟨rfl, rfl⟩
  · by_cases h6 : n < 6
    · go_enter Tryd.func13, Tryd.ntmps13
      go_wp2
      go_ret
      exact ⟨rfl, rfl⟩
    · go_enter Tryd.func13, Tryd.ntmps13
      go_wp2
      go_ret
      exact ⟨rfl, rfl⟩

set_option maxRecDepth 100000 in
theorem refslot_small (d : Nat) (h : d < 4) (w : World) : Calls Tryd.prog 11 #[.int .u64 (d : Int)] w fun e w' => e = .returned (.int .i64 (slot d : Nat)) ∧ w = w' := by
  have e : slot d = d := by unfold slot; rw [if_pos h]
  rw [e]
  go_enter Tryd.func11, Tryd.ntmps11
  go_wp2
  go_ret
  exact ⟨rfl, rfl⟩

set_option maxRecDepth 100000 in
theorem refslot_large (d : Nat) (h : 4 ≤ d) (h2 : d < 4294967296) (w : World) : Calls Tryd.prog 11 #[.int .u64 (d : Int)] w fun e w' => e = .returned (.int .i64 (slot d : Nat)) ∧ w = w' := by
  have hs := slot_ref d h h2
  have Hs := Lib.hid hs
  have h4 : ¬ (d : Int) < 4 := by omega
  clear hs
  go_enter Tryd.func11, Tryd.ntmps11
  go_wp2
  go_loop [3, 4] (fun v3 v4 => ∃ n p : Nat, 1 ≤ p ∧ p ≤ d ∧ Hid (p = 2 ^ n) ∧ n ≤ 40 ∧ v3 = .int .i64 (n : Int) ∧ v4 = .int .u64 (p : Int)) (fun _ v4 => d - (intOf v4).toNat)
  case atStart => exact ⟨0, 1, by omega, by omega, rfl, by omega, rfl, rfl⟩
  case round =>
    obtain ⟨n, p, hp1, hp2, hp, hn, rfl, rfl⟩ := hrel
    by_cases hlt : 2 * p ≤ d
    · have hn40 : n < 40 := by
        rcases Nat.lt_or_ge n 40 with h | h
        · exact h
        · have := Nat.pow_le_pow_right (show 0 < 2 by decide) h
          rw [← hp.out] at this
          omega
      have hm1 : IntKind.u64.wrap ((p : Int) * 2) = (p : Int) * 2 := IntWalk.u64_in _ (by omega)
      have hm2 : IntKind.u64.wrap (2 * (p : Int)) = 2 * (p : Int) := IntWalk.u64_in _ (by omega)
      go_wp2
      go_round
      case rel => exact ⟨n + 1, 2 * p, by omega, by omega, by rw [Nat.pow_succ, ← hp.out, Nat.mul_comm]; rfl, by omega, by go_num, by go_num⟩
      case measure => simp [intOf]; omega
    · have hlg : lg d = n := lg_unique d n (by omega) h2 (by rw [← hp.out]; exact hp2) (by rw [Nat.pow_succ, ← hp.out]; omega)
      have hs2 : slot d = if p + p / 2 ≤ d then 2 * n + 1 else 2 * n := by rw [Hs.out, hlg, ← hp.out]
      have Hs2 := Lib.hid hs2
      have hm1 : IntKind.u64.wrap ((p : Int) * 2) = (p : Int) * 2 := IntWalk.u64_in _ (by omega)
      have hm2 : IntKind.u64.wrap (2 * (p : Int)) = 2 * (p : Int) := IntWalk.u64_in _ (by omega)
      clear hlg hs2
      by_cases hg : p + p / 2 ≤ d
      · go_wp2
        go_ret
        exact ⟨congrArg (fun t => Ending.returned (.int .i64 t)) (by show 2 * (n : Int) + 1 = _; rw [Hs2.out, if_pos hg]; rfl), rfl⟩
      · go_wp2
        go_ret
        exact ⟨congrArg (fun t => Ending.returned (.int .i64 t)) (by show 2 * (n : Int) = _; rw [Hs2.out, if_neg hg]; rfl), rfl⟩

theorem refslot_is (d : Nat) (h2 : d < 4294967296) (w : World) : Calls Tryd.prog 11 #[.int .u64 (d : Int)] w fun e w' => e = .returned (.int .i64 (slot d : Nat)) ∧ w = w' := by
  by_cases h : d < 4
  · exact refslot_small d h w
  · exact refslot_large d (by omega) h2 w

set_option maxRecDepth 100000 in
theorem refbase_is (k : Nat) (h : k < 64) (w : World) : Calls Tryd.prog 12 #[.int .i64 (k : Int)] w fun e w' => e = .returned (.tuple #[.int .u64 (base k : Nat), .int .i64 (sbits k : Nat)]) ∧ w = w' := by
  by_cases h4 : k < 4
  · have e1 : base k = k := by unfold base; rw [if_pos h4]
    have e2 : sbits k = 0 := by unfold sbits; rw [if_pos h4]
    rw [e1, e2]
    clear e1 e2
    go_enter Tryd.func12, Tryd.ntmps12
    go_wp2
    go_ret2
    exact ⟨rfl, rfl⟩
  · have e1 := base_ref k (by omega)
    have e2 : sbits k = k / 2 - 1 := by unfold sbits; rw [if_neg h4]
    have E1 := Lib.hid e1
    have E2 := Lib.hid e2
    clear e1 e2
    go_enter Tryd.func12, Tryd.ntmps12
    go_wp2
    go_loop [4, 5] (fun v4 v5 => ∃ i p : Nat, i ≤ k / 2 ∧ 1 ≤ p ∧ p ≤ 2147483648 ∧ Hid (p = 2 ^ i) ∧ v5 = .int .i64 (i : Int) ∧ v4 = .int .u64 (p : Int)) (fun _ v5 => k / 2 - (intOf v5).toNat)
    case atStart => exact ⟨0, 1, by omega, by omega, by omega, rfl, rfl, rfl⟩
    case round =>
      obtain ⟨i, p, hi, hp1, hp2, hp, rfl, rfl⟩ := hrel
      by_cases hlt : i < k / 2
      · have hq : 2 * p ≤ 2147483648 := by
          have := Nat.pow_le_pow_right (show 0 < 2 by decide) (show i + 1 ≤ 31 by omega)
          rw [Nat.pow_succ, ← hp.out] at this
          omega
        have hm1 : IntKind.u64.wrap ((p : Int) * 2) = (p : Int) * 2 := IntWalk.u64_in _ (by omega)
        have hlt2 : (i : Int) < (k : Int) / 2 := by omega
        go_wp2
        go_round
        case rel => exact ⟨i + 1, 2 * p, by omega, by omega, by omega, by rw [Nat.pow_succ, ← hp.out, Nat.mul_comm]; rfl, by go_num, by rw [Int.mul_comm]; rfl⟩
        case measure => simp [intOf]; omega
      · obtain rfl : i = k / 2 := by omega
        have E3 : Hid (base k = if k % 2 = 1 then p + p / 2 else p) := by rw [E1.out, ← hp.out]; rfl
        have hlt2 : ¬ ((k / 2 : Nat) : Int) < (k : Int) / 2 := by omega
        by_cases ho : k % 2 = 1
        · have ho2 : ((k : Int) % 2 == 1) = true := by simp; omega
          go_wp2
          go_ret2
          refine ⟨congrArg Ending.returned ?_, rfl⟩
          show Value.tuple #[.int .u64 ((p : Int) + (p : Int) / 2), .int .i64 ((k : Int) / 2 - 1)] = _
          have ec : (p : Int) + (p : Int) / 2 = ((base k : Nat) : Int) := by rw [E3.out, if_pos ho]; omega
          have ed : (k : Int) / 2 - 1 = ((sbits k : Nat) : Int) := by rw [E2.out]; omega
          rw [ec, ed]
        · have ho2 : ((k : Int) % 2 == 1) = false := by simp; omega
          go_wp2
          go_ret2
          refine ⟨congrArg Ending.returned ?_, rfl⟩
          show Value.tuple #[.int .u64 (p : Int), .int .i64 ((k : Int) / 2 - 1)] = _
          have ec : (p : Int) = ((base k : Nat) : Int) := by rw [E3.out, if_neg ho]
          have ed : (k : Int) / 2 - 1 = ((sbits k : Nat) : Int) := by rw [E2.out]; omega
          rw [ec, ed]
end Go.Proofs.YtfmoagdhajfngaaDoor
