/- Walks of layer 1 (crc), more. -/
import Derived.Test.YtfmoagdhajfngaaCrc
import Derived.Lib.ConvBytes
import Derived.Laws.BytesArg
namespace Go.Proofs.Ytfmoagdhajfngaa
open Go.RowKit Go.My Go.Crc

set_option maxRecDepth 100000 in
theorem crc_bytes (n : Nat) (w : World) :
    Calls Try.prog 11 #[.int .u32 (n : Int)] w fun e w' => e = .returned (.string (strOfNums [(n : Int) % 256, (n : Int) / 256 % 256, (n : Int) / 65536 % 256, (n : Int) / 16777216 % 256])) ∧ Below w.heap.size w w' := by
  have kc := run_convert_bytes_arg (P := Try.prog) (w.alloc (.cells #[.int .u8 ((n : Int) % 256), .int .u8 ((n : Int) / 256 % 256), .int .u8 ((n : Int) / 65536 % 256), .int .u8 ((n : Int) / 16777216 % 256)] 5)) 29 5 Try.underlying29 Try.underlying5 w.heap.size 0 4 4
    [(n : Int) % 256, (n : Int) / 256 % 256, (n : Int) / 65536 % 256, (n : Int) / 16777216 % 256] rfl (by
      intro i hi
      match i, hi with
      | 0, _ => simp
      | 1, _ => simp
      | 2, _ => simp
      | 3, _ => simp) 9 Try.underlying9
  go_enter Try.func11, Try.ntmps11
  go_wp2
  go_ret
  exact ⟨rfl, (Below.refl _ _).alloc (Nat.le_refl _) _⟩

set_option maxRecDepth 100000 in
theorem ref_sum (s : ByteArray) (hs : s.size ≤ 140737488351232) (w : World) :
    Calls Try.prog 10 #[.string s] w fun e w' => e = .returned (.int .u32 (add 0 s.data.toList : Nat)) ∧ w = w' := by
  go_enter Try.func10, Try.ntmps10
  go_wp2
  go_loop [3, 4] (fun v3 v4 => ∃ i m : Nat, i ≤ s.size ∧ Hid (m < 4294967296) ∧ Hid (run m (s.data.toList.drop i) = run 4294967295 s.data.toList) ∧ v3 = .int .u32 (m : Int) ∧ v4 = .int .i64 (i : Int)) (fun _ v4 => s.size - (intOf v4).toNat)
  case atStart => exact ⟨0, 4294967295, Nat.zero_le _, by show (4294967295 : Nat) < _; decide, rfl, rfl, rfl⟩
  case round =>
    obtain ⟨i, m, hi, hm, hr, rfl, rfl⟩ := hrel
    by_cases hlt : i < s.size
    · have hb := (s.data.toList[i]'(by simpa using hlt)).toNat_lt
      have hx := xor32 m ((s[i]'hlt).toNat) hm.out (by have := (s[i]'hlt).toNat_lt; omega)
      have hmod : (((s[i]'hlt).toNat : Int) % 4294967296) = (((s[i]'hlt).toNat : Nat) : Int) := by have := (s[i]'hlt).toNat_lt; omega
      rw [← hmod] at hx
      have Hx := Lib.hid hx
      have hl : m ^^^ (s[i]'hlt).toNat < 4294967296 := byte_lt m _ hm.out
      have hr2 := hr.out
      rw [run_step m s.data.toList i (by simpa using hlt)] at hr2
      have he : (s.data.toList[i]'(by simpa using hlt)) = s[i]'hlt := by simp [ByteArray.getElem_eq_getElem_data]
      rw [he] at hr2
      have Hl := Lib.hid hl
      have Hr2 := Lib.hid hr2
      clear hx hmod hb hl hr2 he hr
      go_wp2
      go_loop [3, 5] (fun v3 v5 => ∃ j m2 : Nat, j ≤ 8 ∧ Hid (m2 < 4294967296) ∧ Hid (its (8 - j) m2 = its 8 (m ^^^ (s[i]'hlt).toNat)) ∧ v3 = .int .u32 (m2 : Int) ∧ v5 = .int .i64 (j : Int)) (fun _ v5 => 8 - (intOf v5).toNat)
      case atStart => exact ⟨0, _, by omega, Hl.out, rfl, u32_eq Hx.out, rfl⟩
      case round =>
        obtain ⟨j, m2, hj, hm2, hr3, rfl, rfl⟩ := hrel
        by_cases hlt2 : j < 8
        · have hs := stepR m2 hm2.out
          have Hs := Lib.hid hs
          clear hs
          go_wp2
          all_goals go_round
          case rel =>
            have hc : (m2 : Int) % 2 = 1 := by simpa using ‹((m2 : Int) % 2 == 1) = true›
            refine ⟨j + 1, stp m2, by omega, stp_lt _ hm2.out, by rw [← hr3.out, show 8 - j = (8 - (j + 1)) + 1 by omega]; rfl, u32_eq ?_, by go_num⟩
            rw [← Hs.out, Int.tmod_eq_emod_of_nonneg (by omega), if_pos hc, Int.tdiv_eq_ediv_of_nonneg (by omega)]
          case measure => simp [intOf]; omega
          case rel =>
            have hc : ¬ (m2 : Int) % 2 = 1 := by simpa using ‹((m2 : Int) % 2 == 1) = false›
            refine ⟨j + 1, stp m2, by omega, stp_lt _ hm2.out, by rw [← hr3.out, show 8 - j = (8 - (j + 1)) + 1 by omega]; rfl, u32_eq ?_, by go_num⟩
            rw [← Hs.out, Int.tmod_eq_emod_of_nonneg (by omega), if_neg hc, Int.tdiv_eq_ediv_of_nonneg (by omega)]
          case measure => simp [intOf]; omega
        · obtain rfl : j = 8 := by omega
          have hlast : m2 = its 8 (m ^^^ (s[i]'hlt).toNat) := hr3.out
          have Hlast := Lib.hid hlast
          clear hlast
          go_wp2
          go_round
          case rel => exact ⟨i + 1, m2, by omega, hm2, by rw [Hlast.out]; exact Hr2.out, rfl, by go_num⟩
          case measure => simp [intOf]; omega
    · obtain rfl : i = s.size := by omega
      have hrr := hr.out
      rw [List.drop_of_length_le (by simp)] at hrr
      have hm' := hm.out
      have hf : ((4294967295 - (m : Int)) % 4294967296) = (add 0 s.data.toList : Nat) := by
        have e := ones_xor m hm'
        have e2 : add 0 s.data.toList = 4294967295 - m := by
          unfold add
          rw [show (0 : Nat) ^^^ 4294967295 = 4294967295 from rfl, ← hrr, ← e]
          rfl
        rw [e2]; omega
      have Hf := Lib.hid hf
      clear hrr hf hm'
      go_wp2
      go_ret
      exact ⟨congrArg (fun t => Ending.returned (.int .u32 t)) Hf.out, rfl⟩

theorem crc_known (w : World) : Calls Try.prog 12 #[.string ⟨#[49, 50, 51, 52, 53, 54, 55, 56, 57]⟩] w fun e w' => e = .returned (.int .u32 3421780262) ∧ w = w' :=
  (crc_sum _ (by decide) w).mono fun e w' ⟨he, hw⟩ => ⟨he.trans (congrArg (fun t : Nat => Ending.returned (.int .u32 (t : Int))) (show add 0 (⟨#[49, 50, 51, 52, 53, 54, 55, 56, 57]⟩ : ByteArray).data.toList = 3421780262 by decide +kernel)), hw⟩
theorem bytes_known (w : World) : Calls Try.prog 11 #[.int .u32 16909060] w fun e w' => e = .returned (.string ⟨#[4, 3, 2, 1]⟩) ∧ Below w.heap.size w w' :=
  (crc_bytes 16909060 w).mono fun e w' ⟨he, hw⟩ => ⟨by rw [he]; rfl, hw⟩

set_option maxRecDepth 100000 in
theorem speaks01 (w : World) : Calls Try.prog 9 #[] w fun e w' => e = .returned (.bool true) ∧ Below w.heap.size w w' := by
  go_enter Try.func9, Try.ntmps9
  go_wp2_with (first | (go_at_call 12; refine (crc_known _).mono ?_; rintro e w' ⟨rfl, rfl⟩) | (go_at_call 11; refine (bytes_known _).mono ?_; rintro e w' ⟨rfl, hb⟩))
  go_ret
  exact ⟨rfl, hb⟩
end Go.Proofs.Ytfmoagdhajfngaa
