/- CrcSums: the program's sum of any text is the document's, also in two parts, and its four bytes spell it: no condition. -/
import Derived.Test.YtfmoagdhajfngaaCrcB
import Derived.Deep.DeepCutAuto
namespace Go.Proofs.Ytfmoagdhajfngaa
open Go.RowKit Go.My Go.Crc

theorem spelt (N : Nat) (h : N < 4294967296) : (((((strOfNums [(N : Int) % 256, (N : Int) / 256 % 256, (N : Int) / 65536 % 256, (N : Int) / 16777216 % 256])[0]'(by rw [strOfNums_size]; simp)).toNat : Int) +
    256 * ((((strOfNums [(N : Int) % 256, (N : Int) / 256 % 256, (N : Int) / 65536 % 256, (N : Int) / 16777216 % 256])[1]'(by rw [strOfNums_size]; simp)).toNat : Int) % 4294967296) +
    65536 * ((((strOfNums [(N : Int) % 256, (N : Int) / 256 % 256, (N : Int) / 65536 % 256, (N : Int) / 16777216 % 256])[2]'(by rw [strOfNums_size]; simp)).toNat : Int) % 4294967296) +
    16777216 * ((((strOfNums [(N : Int) % 256, (N : Int) / 256 % 256, (N : Int) / 65536 % 256, (N : Int) / 16777216 % 256])[3]'(by rw [strOfNums_size]; simp)).toNat : Int) % 4294967296)) % 4294967296 == (N : Int)) = true := by
  have h0 : ((strOfNums [(N : Int) % 256, (N : Int) / 256 % 256, (N : Int) / 65536 % 256, (N : Int) / 16777216 % 256])[0]'(by rw [strOfNums_size]; simp)) = UInt8.ofNat ((N : Int) % 256).toNat := rfl
  have h1 : ((strOfNums [(N : Int) % 256, (N : Int) / 256 % 256, (N : Int) / 65536 % 256, (N : Int) / 16777216 % 256])[1]'(by rw [strOfNums_size]; simp)) = UInt8.ofNat ((N : Int) / 256 % 256).toNat := rfl
  have h2 : ((strOfNums [(N : Int) % 256, (N : Int) / 256 % 256, (N : Int) / 65536 % 256, (N : Int) / 16777216 % 256])[2]'(by rw [strOfNums_size]; simp)) = UInt8.ofNat ((N : Int) / 65536 % 256).toNat := rfl
  have h3 : ((strOfNums [(N : Int) % 256, (N : Int) / 256 % 256, (N : Int) / 65536 % 256, (N : Int) / 16777216 % 256])[3]'(by rw [strOfNums_size]; simp)) = UInt8.ofNat ((N : Int) / 16777216 % 256).toNat := rfl
  rw [h0, h1, h2, h3]
  simp only [UInt8.toNat_ofNat', beq_iff_eq]
  omega

set_option maxRecDepth 100000 in
theorem crcSums_walk (s : ByteArray) (cut : Int) (hs : s.size ≤ 140737488351232) (hc : 0 ≤ cut ∧ cut < 65536) (w : World) :
    Calls Try.prog 3 #[.string s, .int .u16 cut] w fun e w' => e = .returned (.bool true) ∧ Below w.heap.size w w' := by
  obtain ⟨hc0, hc1⟩ := hc
  go_enter Try.func3, Try.ntmps3
  go_upto_region 3 with (go_at_call 9; refine (speaks01 _).mono ?_; rintro e w1 ⟨rfl, hb1⟩)
  go_cut [0] (fun v0 w' => ∃ t : ByteArray, t.size ≤ 300 ∧ v0 = .string t ∧ w' = w1)
  case first =>
    by_cases h3 : s.size ≤ 300
    · go_wp2
      go_meet
      case rel => refine ⟨_, ?_, rfl, rfl⟩; (first | omega | (rw [ByteArray.size_extract]; omega))
    · go_wp2
      go_meet
      case rel => refine ⟨_, ?_, rfl, rfl⟩; (first | omega | (rw [ByteArray.size_extract]; omega))
  case rest =>
    obtain ⟨t, ht, rfl, rfl⟩ := hcut
    obtain ⟨q, hq⟩ : ∃ q : Nat, cut % ((t.size : Int) + 1) = q := ⟨(cut % ((t.size : Int) + 1)).toNat, by have := Int.emod_nonneg cut (show (t.size : Int) + 1 ≠ 0 by omega); omega⟩
    have hq2 : q ≤ t.size := by have := Int.emod_lt_of_pos cut (show (0 : Int) < (t.size : Int) + 1 by omega); omega
    go_upto_region 7 with (first | (go_at_call 10; refine (ref_sum _ (by omega) _).mono ?_; rintro e w' ⟨rfl, rfl⟩) | (go_at_call 11; refine (crc_bytes _ _).mono ?_; rintro e w2 ⟨rfl, hb2⟩))
    have hadd : add (add 0 (t.extract 0 q).data.toList) (t.extract q t.size).data.toList = add 0 t.data.toList := by
      rw [add_append]
      congr 1
      rw [ByteArray.data_extract, ByteArray.data_extract, Array.toList_extract, Array.toList_extract]
      simp only [List.extract_eq_take_drop, List.drop_zero, Nat.sub_zero]
      rw [List.take_of_length_le (l := List.drop q t.data.toList) (by simp)]
      exact List.take_append_drop _ _
    have hn := add_lt 0 t.data.toList (by decide)
    have hn2 := add_lt 0 (t.extract 0 q).data.toList (by decide)
    generalize hN : add 0 t.data.toList = N at *
    generalize hM : add 0 (t.extract 0 q).data.toList = M at *
    have h4 : (strOfNums [(N : Int) % 256, (N : Int) / 256 % 256, (N : Int) / 65536 % 256, (N : Int) / 16777216 % 256]).size = 4 := rfl
    generalize hB : strOfNums [(N : Int) % 256, (N : Int) / 256 % 256, (N : Int) / 65536 % 256, (N : Int) / 16777216 % 256] = B at *
    have HB := Lib.hid hB
    have HN := Lib.hid hN
    have HM := Lib.hid hM
    have Hadd := Lib.hid hadd
    have Hn := Lib.hid hn
    have Hn2 := Lib.hid hn2
    have l1 : (t.extract 0 q).size ≤ 300 := by rw [ByteArray.size_extract]; omega
    have l2 : (t.extract q t.size).size ≤ 300 := by rw [ByteArray.size_extract]; omega
    have L1 := Lib.hid l1
    have L2 := Lib.hid l2
    have Hq := Lib.hid hq
    clear hB hN hM hadd hn hn2 l1 l2 hq
    have c1 : ∀ w, Calls Try.prog 12 #[.string t] w fun e w' => e = .returned (.int .u32 (N : Int)) ∧ w' = w := fun w => (crc_sum t (by omega) w).mono fun e w' ⟨he, hw⟩ => ⟨he.trans (by rw [HN.out]), hw.symm⟩
    have c2 : ∀ w, Calls Try.prog 12 #[.string (t.extract 0 q)] w fun e w' => e = .returned (.int .u32 (M : Int)) ∧ w' = w := fun w => (crc_sum _ (by have := L1.out; omega) w).mono fun e w' ⟨he, hw⟩ => ⟨he.trans (by rw [HM.out]), hw.symm⟩
    have c3 : ∀ w, Calls Try.prog 13 #[.int .u32 (M : Int), .string (t.extract q t.size)] w fun e w' => e = .returned (.int .u32 (N : Int)) ∧ w' = w := fun w => (crc_add M Hn2.out _ (by have := L2.out; omega) w).mono fun e w' ⟨he, hw⟩ => ⟨he.trans (by rw [Hadd.out]), hw.symm⟩
    have C1 := Lib.hid c1
    have C2 := Lib.hid c2
    have C3 := Lib.hid c3
    clear c1 c2 c3
    go_quiet ((first | (go_at_call 13; exact Calls.quiet_of_same (C3.out _)) | (go_at_call 12; first | exact Calls.quiet_of_same (C1.out _) | exact Calls.quiet_of_same (C2.out _))))
    go_wp2
    go_ret
    refine ⟨?_, (hb1.trans (hb2.mono hb1.size)).trans ⟨rfl, rfl, rfl, Nat.le_refl _, fun _ _ => rfl⟩⟩
    have hn := Hn.out
    have e := HB.out
    subst e
    refine congrArg (fun b => Ending.returned (.bool b)) ?_
    exact spelt N hn
end Go.Proofs.Ytfmoagdhajfngaa
