/- Walks of layer 15 (price): sums of packets. -/
import Derived.Test.YtlkiijojldnlbaaPr
import Derived.Deep.CutBlock
namespace Go.Proofs.Ytlkiijojldnlbaa
open Go.RowKit Go.Sort

theorem bitLen_zero : Lib.bitLen 0 = 0 := by decide
theorem bitLen_half (x : Nat) (h0 : 0 < x) (h : x < 2 ^ 64) : Lib.bitLen x = 1 + Lib.bitLen (x / 2) := by
  show Lib.bitLenAux (63 + 1) x = 1 + Lib.bitLenAux 64 (x / 2)
  rw [Lib.bitLenAux, if_neg (by omega), Lib.bitLenAux_fuel 63 (x / 2) (by omega) 64 (by omega)]

set_option maxRecDepth 100000 in
theorem refbits_is (d : Int) (hd : d ≤ 9223372036854775807) (hd0 : -9223372036854775808 ≤ d) (w : World) : Calls Try.prog 13 #[.int .i64 d] w fun e w' => e = .returned (.int .i64 (dbits d : Nat)) ∧ w' = w := by
  by_cases h : 1 < d
  · obtain ⟨m, rfl⟩ : ∃ m : Nat, d = m + 1 := ⟨(d - 1).toNat, by omega⟩
    have e0 : dbits (m + 1) = 0 + Lib.bitLen m := by
      unfold dbits
      rw [if_neg (by omega), show ((m : Int) + 1 - 1).toNat = m by omega, Nat.zero_add]
    have hs : IntKind.i64.wrap ((m : Int) + 1 - 1) = m := by rw [IntWalk.i64_in _ (by omega)]; omega
    have hu : IntKind.u64.wrap (m : Int) = m := IntWalk.u64_in _ (by omega)
    have H0 := Lib.hid e0
    clear e0
    generalize dbits (m + 1) = D at *
    go_enter Try.func13, Try.ntmps13
    go_wp2
    go_loop [3, 4] (fun v3 v4 => ∃ n k : Nat, n + k ≤ m ∧ v3 = .int .i64 (n : Int) ∧ v4 = .int .u64 (k : Int) ∧ Hid (D = n + Lib.bitLen k)) (fun _ v4 => (intOf v4).toNat)
    case atStart => exact ⟨0, m, by omega, rfl, by go_num, H0⟩
    case round =>
      clear H0
      obtain ⟨n, k, hnk, rfl, rfl, H⟩ := hrel
      by_cases hk : 0 < k
      · have H' : Hid (D = (n + 1) + Lib.bitLen (k / 2)) := by
          show _ = _
          rw [H.out, bitLen_half k hk (by omega)]; omega
        clear H
        go_wp2
        go_round
        case rel => exact ⟨n + 1, k / 2, by omega, by go_num, by go_num, H'⟩
        case measure => simp [intOf]; omega
      · obtain rfl : k = 0 := by omega
        have e : Hid (D = n) := by show _ = _; rw [H.out, bitLen_zero]; rfl
        clear H
        go_wp2
        go_ret
        exact ⟨congrArg (fun t : Nat => Ending.returned (.int .i64 (t : Int))) e.out.symm, rfl⟩
  · have e0 : dbits d = 0 := by
      unfold dbits
      split
      · rfl
      · rw [show (d - 1).toNat = 0 by omega, bitLen_zero]
    rw [e0]
    clear e0
    go_enter Try.func13, Try.ntmps13
    go_wp2
    go_ret
    exact ⟨rfl, rfl⟩

/-- What a length, and a match costs. -/
def ln (c d n : Int) : Int := if n < 10 then c else d
theorem ln_range {c d : Int} (n : Int) (hc : 1 ≤ c ∧ c ≤ 10000) (hd : 1 ≤ d ∧ d ≤ 10000) : 1 ≤ ln c d n ∧ ln c d n ≤ 10000 := by
  unfold ln; split <;> assumption
theorem mul_range {e : Int} (n : Int) (he : 1 ≤ e ∧ e ≤ 10000) (hn : n ≤ 9223372036854775807) : 0 ≤ e * (dbits n : Nat) ∧ e * (dbits n : Nat) ≤ 640000 := by
  have hb := dbits_le n hn
  generalize dbits n = q at *
  have h1 : (0 : Int) ≤ e * (q : Int) := Int.mul_nonneg (by omega) (by omega)
  have h2 : e * (q : Int) ≤ 10000 * 64 := Int.mul_le_mul he.2 (by omega) (by omega) (by omega)
  omega

set_option maxRecDepth 100000 in
theorem match_is (a b c d e n t : Int) (hb : 1 ≤ b ∧ b ≤ 10000) (hc : 1 ≤ c ∧ c ≤ 10000) (hd : 1 ≤ d ∧ d ≤ 10000) (he : 1 ≤ e ∧ e ≤ 10000) (ht : t ≤ 9223372036854775807) (ht0 : -9223372036854775808 ≤ t) (w : World) :
    Calls Try.prog 14 #[.agg #[.int .i64 a, .int .i64 b, .int .i64 c, .int .i64 d, .int .i64 e], .int .i64 n, .int .i64 t] w fun x w' => x = .returned (.int .i64 (b + ln c d n + e * (dbits t : Nat))) ∧ Gw w w' := by
  have hr := mul_range t he ht
  have hl := ln_range n hc hd
  have hx := fun w => refbits_is t ht ht0 w
  have Hx := Lib.hid hx
  clear hx
  generalize dbits t = D at *
  obtain ⟨E, hE⟩ : ∃ E, e * (D : Int) = E := ⟨_, rfl⟩
  rw [hE] at hr ⊢
  have hm : IntKind.i64.wrap (e * (D : Int)) = E := by rw [hE]; exact IntWalk.i64_in _ (by omega)
  have hm2 : IntKind.i64.wrap (b + E) = b + E := IntWalk.i64_in _ (by omega)
  clear hE
  by_cases h : n < 10
  · have hL : ln c d n = c := by unfold ln; rw [if_pos h]
    rw [hL] at hl ⊢
    clear hL
    have hm3 : IntKind.i64.wrap (b + E + c) = b + c + E := by rw [IntWalk.i64_in _ (by omega)]; omega
    go_enter Try.func14, Try.ntmps14
    go_wp2_with fail
    go_quiet (first | (go_at_call 13; exact Calls.quiet_of_same (Hx.out _)))
    go_wp2
    go_ret
    exact ⟨by first | rfl | (congr 2; omega), ((Gw.refl _).alloc _).drewN _⟩
  · have hL : ln c d n = d := by unfold ln; rw [if_neg h]
    rw [hL] at hl ⊢
    clear hL
    have hm3 : IntKind.i64.wrap (b + E + d) = b + d + E := by rw [IntWalk.i64_in _ (by omega)]; omega
    go_enter Try.func14, Try.ntmps14
    go_wp2_with fail
    go_quiet (first | (go_at_call 13; exact Calls.quiet_of_same (Hx.out _)))
    go_wp2
    go_ret
    exact ⟨by first | rfl | (congr 2; omega), ((Gw.refl _).alloc _).drewN _⟩

set_option maxRecDepth 100000 in
theorem common_is (w : World) : Calls Try.prog 25 #[] w fun x w' => x = .returned (.agg #[.int .i64 34, .int .i64 20, .int .i64 16, .int .i64 36, .int .i64 5]) ∧ Gw w w' := by
  go_enter Try.func25, Try.ntmps25
  go_wp2
  refine bodyPost_ret (v := .agg #[.int .i64 34, .int .i64 20, .int .i64 16, .int .i64 36, .int .i64 5]) (by simp [results, Try.results25, go_sem]; try rfl) rfl ?_
  exact ⟨rfl, (Gw.refl _).alloc _⟩
end Go.Proofs.Ytlkiijojldnlbaa
