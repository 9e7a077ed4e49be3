/- Layer 07 (chain): ChainRises. -/
import Derived.Test.YtjdmkffhhlijnaaCh6
import Derived.Test.YtjdmkffhhlijnaaChR
namespace Go.Proofs.Ytjdmkffhhlijnaa
set_option linter.unusedVariables false
open Go.RowKit Go.My Go.Ch

set_option maxHeartbeats 4000000 in
set_option maxRecDepth 100000 in
theorem chainRises_walk (s0 : ByteArray) (win cut : Int) (hw0 : 0 ≤ win ∧ win < 256) (hc0 : 0 ≤ cut ∧ cut < 256) (w : World) :
    Calls Try.prog 4 #[.string s0, .int .u8 win, .int .u8 cut] w fun e w' => e = .returned (.bool true) ∧ Fr (fun _ => False) w w' := by
  obtain ⟨hwa, hwb⟩ := hw0
  obtain ⟨hca, hcb⟩ := hc0
  go_enter Try.func4, Try.ntmps4
  go_upto_region 3 with (go_at_call 8; refine (speaks07 w).mono ?_; rintro e w1 ⟨rfl, h⟩; have F1 := Lib.hid h; clear h)
  go_cut [0] (fun v0 w' => ∃ t : ByteArray, t.size ≤ 300 ∧ v0 = .string t ∧ w' = w1)
  case first =>
    by_cases h3 : s0.size ≤ 300
    all_goals
      go_wp2
      go_meet
      refine ⟨_, ?_, rfl, rfl⟩
      first | omega | (rw [ByteArray.size_extract]; split <;> omega) | (rw [ByteArray.size_extract]; omega)
  case rest =>
    obtain ⟨s, hs, rfl, hwc⟩ := hcut
    rw [hwc]
    clear hwc
    obtain ⟨l, hl⟩ : ∃ l, s.data.toList = l := ⟨_, rfl⟩
    have hsz : s.size = l.length := by rw [← hl]; simp
    have hat : ∀ j (h : j < s.size), s[j] = l.getD j 0 := fun j h => by rw [← hl]; exact str_at s j h
    have Hl := Lib.hid hl
    have Hsz := Lib.hid hsz
    have Hat := Lib.hid hat
    obtain ⟨B, hB⟩ : ∃ B, w1.heap.size = B := ⟨_, rfl⟩
    have hnw := chnew_is s win cut w1
    rw [hB] at hnw
    have HN := Lib.hid hnw
    have HB : Hid (w.heap.size ≤ B) := by show _ ≤ _; have := F1.out.size; omega
    clear hnw hB hl hsz hat
    go_upto_block 0 with (go_at_call 9; refine HN.out.mono ?_; rintro e w2 ⟨p, b, rfl, h1, h2⟩; have FA := Lib.hid h1; have FF : Hid (Fr (fun k => B ≤ k) w w2) := Lib.hid ((F1.out.trans h2 (fun _ h => .inl h)).mono (fun _ h => h.elim)); clear h1 h2)
    clear HN F1
    go_wp2
    go_loopw [8, 9, 10, 11, 12, 13] (fun v8 _ _ _ _ _ wr => ∃ (i : Nat) (v5 : Value), i ≤ s.size ∧ v8 = .int .i64 (i : Int) ∧ Hid (FinB wr B p s win cut i i b v5) ∧ Hid (Fr (fun k => B ≤ k) w wr)) (fun v8 _ _ _ _ _ _ => s.size - (intOf v8).toNat)
    case atStart => exact ⟨0, _, by omega, rfl, FA, FF⟩
    case round =>
      obtain ⟨i, v5, hi, rfl, KA, KF⟩ := hrel
      clear FA FF
      by_cases hlt : i < s.size
      · have hlI : (i : Int) < (s.size : Int) := by omega
        have hnx := next_is KA.out hlt (by omega)
        rw [Hl.out] at hnx
        have hln := found_len l i win cut hca
        obtain ⟨L, hL⟩ : ∃ L, foundL l i win cut = L := ⟨_, rfl⟩
        have hok := fun k hk => found_okL l i win cut hwa hca L hL k hk
        rw [hL] at hnx hln
        have HNx := Lib.hid hnx
        have HOk := Lib.hid hok
        obtain ⟨N, hN⟩ : ∃ N, L.length = N := ⟨_, rfl⟩
        have HNL := Lib.hid hN
        rw [hN] at hln
        clear hnx hok hL hN
        go_upto_region 9 with (go_at_call 10; refine HNx.out.mono ?_; rintro e w3 ⟨r, v6, rfl, h1, h2, h3⟩; have R3 := Lib.hid h1; have A3 := Lib.hid h2; have F3 := Lib.hid (KF.out.trans h3 (fun _ h => .inl h)); clear h1 h2 h3)
        clear HNx KA KF
        obtain ⟨ad1, cap1, hr⟩ := own_any R3.out
        subst hr
        rw [HNL.out]
        go_upto_block 2 with fail
        go_wp2
        go_loopw [10, 11, 12, 13] (fun v10 _ _ _ wr => ∃ k : Nat, k ≤ N ∧ v10 = .int .i64 (k : Int) ∧ Hid (Fr (fun _ => False) w3 wr)) (fun v10 _ _ _ _ => N - (intOf v10).toNat)
        case atStart => exact ⟨0, by omega, rfl, Fr.refl _ _⟩
        case round =>
          obtain ⟨k, hk, rfl, LF⟩ := hrel
          by_cases hlk : k < N
          · have hkI : (k : Int) < (N : Int) := by omega
            have hk0 : (0 : Int) ≤ (k : Int) := by omega
            have hkL : k < L.length := by rw [HNL.out]; exact hlk
            have r5 := own_keep R3.out LF.out (fun _ _ x => x)
            obtain ⟨g1, cap1', hr1⟩ := own_slice r5 (by omega)
            injection hr1 with hra hrb hrc
            subst hra
            clear hrb hrc
            obtain ⟨d0, d1⟩ := found_cell r5 k hkL
            obtain ⟨o1, o2, o3, o4, o5, o6, o7, o8⟩ := HOk.out k hkL
            obtain ⟨n, hn⟩ : ∃ n, (L[k]).1 = n := ⟨_, rfl⟩
            obtain ⟨d, hd⟩ : ∃ d, (L[k]).2 = d := ⟨_, rfl⟩
            rw [hn] at d0 o1 o2 o3 o7 o8
            rw [hd] at d1 o4 o5 o6 o7 o8
            have t1 : ¬ ((n : Int) < 3) := by omega
            have t2 : ¬ ((s.size : Int) - (i : Int) < (n : Int)) := by have := Hsz.out; omega
            have t3 : ¬ ((273 : Int) < (n : Int)) := by omega
            have t4 : ¬ ((d : Int) < 1) := by omega
            have t5 : ¬ ((i : Int) < (d : Int)) := by omega
            have t6 : ¬ (win < (d : Int)) := by omega
            have O7 := Lib.hid o7
            have O2 := Lib.hid o2
            have hdi : d ≤ i := o5
            have hkc : (k : Int) < 256 := by omega
            rcases Nat.eq_zero_or_pos k with hkz | hkp
            case' inl =>
              subst hkz
              clear o8 r5 hn hd o7 o2
              go_upto_region 12 with fail
              go_region
              all_goals go_upto_block 4 with fail
            case' inr =>
              obtain ⟨k', hkk⟩ : ∃ k', k = k' + 1 := ⟨k - 1, by omega⟩
              obtain ⟨c0, c1⟩ := found_cell r5 k' (by omega)
              obtain ⟨q1, q2⟩ := o8 k' hkk
              generalize (L[k']'(by omega)).1 = x at *
              generalize (L[k']'(by omega)).2 = y at *
              have kk : (k : Int) - 1 = (k' : Int) := by omega
              have k0 : (0 : Int) < (k : Int) := by omega
              have kk0 : (0 : Int) ≤ (k' : Int) := by omega
              have kkN : (k' : Int) < (N : Int) := by omega
              have u1 : ¬ ((n : Int) ≤ (x : Int)) := by omega
              have u2 : ¬ ((d : Int) ≤ (y : Int)) := by omega
              clear o8 r5 hn hd o7 o2 hkk
              go_upto_region 12 with fail
              go_region
              all_goals go_upto_block 4 with fail
            all_goals
              have LFd := Lib.hid LF.out.drew
              clear LF
              go_wp2
              go_loopw [13] (fun v13 wr => ∃ j : Nat, j ≤ n ∧ v13 = .int .i64 (j : Int) ∧ Hid (Fr (fun _ => False) w3 wr)) (fun v13 _ => n - (intOf v13).toNat)
              case atStart => exact ⟨0, by omega, rfl, LFd⟩
              case round =>
                obtain ⟨j, hj, rfl, JF⟩ := hrel
                by_cases hlj : j < n
                · have hlI2 : (j : Int) < (n : Int) := by omega
                  obtain ⟨q1, hq1⟩ : ∃ q, i + j = q := ⟨_, rfl⟩
                  obtain ⟨q2, hq2⟩ : ∃ q, i - d + j = q := ⟨_, rfl⟩
                  have hq1s : q1 < s.size := by have := O2.out; have := Hsz.out; omega
                  have e1 : IntKind.i64.wrap ((i : Int) + (j : Int)) = (q1 : Int) := by rw [IntWalk.i64_in _ (by omega)]; omega
                  have e2 : IntKind.i64.wrap ((q1 : Int) - (d : Int)) = (q2 : Int) := by rw [IntWalk.i64_in _ (by omega)]; omega
                  have hsame := O7.out j hlj
                  rw [hq1, hq2] at hsame
                  obtain ⟨x', hx'⟩ : ∃ x, l.getD q1 0 = x := ⟨_, rfl⟩
                  rw [hx'] at hsame
                  have i1 : ∀ U, (Instr.index 9 (.string s) (.int .i64 (q1 : Int))).run Try.prog U = .ok (.int .u8 (x'.toNat : Int)) U := str_index s q1 hq1s _ rfl _ (by rw [Hat.out, hx'])
                  have i2 : ∀ U, (Instr.index 9 (.string s) (.int .i64 (q2 : Int))).run Try.prog U = .ok (.int .u8 (x'.toNat : Int)) U := str_index s q2 (by omega) _ rfl _ (by rw [Hat.out, hsame])
                  clear hq1 hq2 hsame hx'
                  go_upto_region 18 with fail
                  go_region
                  all_goals go_wp2
                  all_goals go_roundw
                  all_goals first
                    | exact ⟨j + 1, by omega, by go_num, JF.out.drew⟩
                    | (simp [intOf]; omega)
                · obtain rfl : j = n := by omega
                  clear hlj hj
                  go_wp2
                  go_roundw
                  case rel => first | exact ⟨k + 1, by omega, by go_num, JF⟩ | exact ⟨0 + 1, by omega, by go_num, JF⟩
                  case measure => simp [intOf]; omega
          · obtain rfl : k = N := by omega
            have hlc : ¬ (cut < (k : Int)) := by omega
            clear hlk hk
            go_wp2
            go_roundw
            case rel => exact ⟨i + 1, _, by omega, by go_num, A3.out.fresh LF.out, F3.out.trans LF.out (fun _ h => h.elim)⟩
            case measure => simp [intOf]; omega
      · obtain rfl : i = s.size := by omega
        clear hlt hi
        go_wp2
        go_ret
        exact ⟨rfl, KF.out.mono (fun k hk => .inr (by have := HB.out; omega))⟩
end Go.Proofs.Ytjdmkffhhlijnaa
