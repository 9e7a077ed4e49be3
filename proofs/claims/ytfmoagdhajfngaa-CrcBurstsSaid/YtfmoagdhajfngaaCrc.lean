/- Walks of layer 1 (crc): its functions tell the sums of CrcM. -/
import Derived.Test.YtfmoagdhajfngaaProg
import Derived.Test.YtfmoagdhajfngaaCrcM
import Derived.Test.YtfmoagdhajfngaaFr
import Derived.WalkKit
import Derived.KernelRfl
import Derived.Deep.QuietTactic
import Derived.BigQuiet
import Derived.WalkSpells
namespace Go.Proofs.Ytfmoagdhajfngaa
open Go.RowKit Go.My Go.Crc

theorem u32_eq {a b : Int} (h : a = b) : Value.int .u32 a = Value.int .u32 b := by rw [h]

set_option maxRecDepth 100000 in
theorem crc_add (n : Nat) (hn : n < 4294967296) (s : ByteArray) (hs : s.size ≤ 140737488351232) (w : World) :
    Calls Try.prog 13 #[.int .u32 (n : Int), .string s] w fun e w' => e = .returned (.int .u32 (add n s.data.toList : Nat)) ∧ w = w' := by
  have hx : Go.bits .xor .u32 (n : Int) 4294967295 = ((n ^^^ 4294967295 : Nat) : Int) := xor32 n 4294967295 hn (by decide)
  have Hx := Lib.hid hx
  have Hn := Lib.hid hn
  clear hx hn
  go_enter Try.func13, Try.ntmps13
  go_wp2
  go_loop [5, 11] (fun v5 v11 => ∃ i m : Nat, i ≤ s.size ∧ Hid (m < 4294967296) ∧ Hid (run m (s.data.toList.drop i) = run (n ^^^ 4294967295) s.data.toList) ∧ v5 = .int .u32 (m : Int) ∧ v11 = .int .i64 (i : Int)) (fun _ v11 => s.size - (intOf v11).toNat)
  case atStart => exact ⟨0, n ^^^ 4294967295, Nat.zero_le _, xor_ones_lt n Hn.out, rfl, by rw [Hx.out], rfl⟩
  case round =>
    obtain ⟨i, m, hi, hm, hr, rfl, rfl⟩ := hrel
    by_cases hlt : i < s.size
    · have hb := (s.data.toList[i]'(by simpa using hlt)).toNat_lt
      have hx := xor32 m ((s[i]'hlt).toNat) hm.out (by have := (s[i]'hlt).toNat_lt; omega)
      have hmod : (((s[i]'hlt).toNat : Int) % 4294967296) = (((s[i]'hlt).toNat : Nat) : Int) := by have := (s[i]'hlt).toNat_lt; omega
      rw [← hmod] at hx
      have Hx := Lib.hid hx
      have hl : m ^^^ (s[i]'hlt).toNat < 4294967296 := byte_lt m _ hm.out
      have hr2 := hr.out
      rw [run_step m s.data.toList i (by simpa using hlt)] at hr2
      have he : (s.data.toList[i]'(by simpa using hlt)) = s[i]'hlt := by simp [ByteArray.getElem_eq_getElem_data]
      rw [he] at hr2
      have Hl := Lib.hid hl
      have Hr2 := Lib.hid hr2
      clear hx hmod hb hl hr2 he hr
      go_wp2
      go_loop [5, 20] (fun v5 v20 => ∃ j m2 : Nat, j ≤ 8 ∧ Hid (m2 < 4294967296) ∧ Hid (its (8 - j) m2 = its 8 (m ^^^ (s[i]'hlt).toNat)) ∧ v5 = .int .u32 (m2 : Int) ∧ v20 = .int .i64 (j : Int)) (fun _ v20 => 8 - (intOf v20).toNat)
      case atStart => exact ⟨0, _, by omega, Hl.out, rfl, u32_eq Hx.out, rfl⟩
      case round =>
        obtain ⟨j, m2, hj, hm2, hr3, rfl, rfl⟩ := hrel
        by_cases hlt2 : j < 8
        · have hs := stepP m2 hm2.out
          have Hs := Lib.hid hs
          clear hs
          go_wp2
          go_round
          case rel => exact ⟨j + 1, stp m2, by omega, stp_lt _ hm2.out, by rw [← hr3.out, show 8 - j = (8 - (j + 1)) + 1 by omega]; rfl, u32_eq Hs.out, by go_num⟩
          case measure => simp [intOf]; omega
        · obtain rfl : j = 8 := by omega
          have hlast : m2 = its 8 (m ^^^ (s[i]'hlt).toNat) := hr3.out
          have Hlast := Lib.hid hlast
          clear hlast
          go_wp2
          go_round
          case rel => exact ⟨i + 1, m2, by omega, hm2, by rw [Hlast.out]; exact Hr2.out, rfl, by go_num⟩
          case measure => simp [intOf]; omega
    · obtain rfl : i = s.size := by omega
      have hrr := hr.out
      rw [List.drop_of_length_le (by simp)] at hrr
      have hf := xor32 m 4294967295 hm.out (by decide)
      have Hf : Hid (Go.bits .xor .u32 (m : Int) 4294967295 = (add n s.data.toList : Nat)) := by
        rw [show (4294967295 : Int) = ((4294967295 : Nat) : Int) from rfl, hf]; unfold add; rw [← hrr]; rfl
      clear hrr hf
      go_wp2
      go_ret
      exact ⟨congrArg (fun t => Ending.returned (.int .u32 t)) Hf.out, rfl⟩

set_option maxRecDepth 100000 in
theorem crc_sum (s : ByteArray) (hs : s.size ≤ 140737488351232) (w : World) :
    Calls Try.prog 12 #[.string s] w fun e w' => e = .returned (.int .u32 (add 0 s.data.toList : Nat)) ∧ w = w' := by
  go_enter Try.func12, Try.ntmps12
  go_wp2_with (go_at_call 13; refine (crc_add 0 (by decide) _ hs _).mono ?_; rintro e w' ⟨rfl, rfl⟩)
  go_ret
  exact ⟨rfl, rfl⟩
end Go.Proofs.Ytfmoagdhajfngaa
