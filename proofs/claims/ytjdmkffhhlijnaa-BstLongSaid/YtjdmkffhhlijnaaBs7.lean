/- Layer 08 (bst): BstLong. -/
import Derived.Test.YtjdmkffhhlijnaaBs4
import Derived.Test.YtjdmkffhhlijnaaBsD
namespace Go.Proofs.Ytjdmkffhhlijnaa
set_option linter.unusedVariables false
open Go.RowKit Go.My Go.Ch Go.Bs

set_option maxHeartbeats 4000000 in
set_option maxRecDepth 100000 in
theorem bstLong_walk (s0 : ByteArray) (n : Int) (hn0 : 0 ≤ n ∧ n < 65536) (w : World) :
    Calls Try.prog 6 #[.string s0, .int .u16 n] w fun e w' => e = .returned (.bool true) ∧ Fr (fun _ => False) w w' := by
  obtain ⟨hna, hnb⟩ := hn0
  go_enter Try.func6, Try.ntmps6
  go_upto_region 3 with (go_at_call 13; refine (speaks08 w).mono ?_; rintro e w1 ⟨rfl, h⟩; have F1 := Lib.hid h; clear h)
  go_cut [0] (fun v0 w' => ∃ t : ByteArray, t.size ≤ 8 ∧ v0 = .string t ∧ w' = w1)
  case first =>
    by_cases h3 : s0.size ≤ 8
    all_goals
      go_wp2
      go_meet
      refine ⟨_, ?_, rfl, rfl⟩
      first | omega | (rw [ByteArray.size_extract]; split <;> omega) | (rw [ByteArray.size_extract]; omega)
  case rest =>
    obtain ⟨r, hs, rfl, hwc⟩ := hcut
    rw [hwc]
    clear hwc
    by_cases hr0 : r.size = 0
    · have hrI : (r.size : Int) = 0 := by omega
      go_wp2
      go_ret
      exact ⟨rfl, F1.out⟩
    · have hrI : ¬ ((r.size : Int) = 0) := by omega
      have hrB : ((r.size : Int) == 0) = false := (show ∀ x : Int, ¬ x = 0 → (x == 0) = false from fun x hx => by simp [hx]) _ hrI
      obtain ⟨l, hl⟩ : ∃ l, r.data.toList = l := ⟨_, rfl⟩
      have hsz : r.size = l.length := by rw [← hl]; simp
      have Hl := Lib.hid hl
      have Hsz := Lib.hid hsz
      obtain ⟨T, hT⟩ : ∃ T, (n % 700).toNat = T := ⟨_, rfl⟩
      have hT7 : T < 700 := by omega
      have e7 : n % 700 = (T : Int) := by omega
      have e7t : n.tmod 700 = (T : Int) := by rw [Int.tmod_eq_emod_of_nonneg hna]; exact e7
      have HT := Lib.hid hT
      clear hl hsz hT
      go_upto_block 0 with fail
      go_cut [5, 6] (fun v5 _ w' => ∃ t : ByteArray, t.size = T ∧ v5 = .string t ∧ Hid (t.data.toList = goL l T) ∧ Hid (Fr (fun _ => False) w1 w'))
      case first =>
        go_wp2
        go_loopw [5, 6] (fun v5 v6 wr => ∃ (j : Nat) (t : ByteArray), j ≤ T ∧ v6 = .int .i64 (j : Int) ∧ v5 = .string t ∧ Hid (t.data.toList = goL l j) ∧ Hid (Fr (fun _ => False) w1 wr)) (fun _ v6 _ => T - (intOf v6).toNat)
        case atStart => exact ⟨0, _, by omega, rfl, rfl, rfl, Fr.refl _ _⟩
        case round =>
          obtain ⟨j, t, hj, rfl, rfl, KT, KF⟩ := hrel
          have htj : t.size = j := by
            have : t.size = t.data.toList.length := by simp
            rw [this, KT.out, goL_length]
          by_cases hlt : j < T
          · have hjI : (j : Int) < (T : Int) := by omega
            obtain ⟨q, hq⟩ : ∃ q, j % r.size = q := ⟨_, rfl⟩
            have hqr : q < r.size := by rw [← hq]; exact Nat.mod_lt _ (by omega)
            have eq1 : (j : Int).tmod (r.size : Int) = (q : Int) := by
              rw [Int.tmod_eq_emod_of_nonneg (by omega), ← hq]
              exact (Int.natCast_emod j r.size).symm
            obtain ⟨q1, hq1⟩ : ∃ q1, q + 1 = q1 := ⟨_, rfl⟩
            have e1 : IntKind.i64.wrap ((q : Int) + 1) = (q1 : Int) := by rw [IntWalk.i64_in _ (by omega)]; omega
            have e2 : (q : Int) + 1 = (q1 : Int) := by omega
            obtain ⟨sub, hsub⟩ : ∃ sub, r.extract q q1 = sub := ⟨_, rfl⟩
            have hsl := fun U => slice_is r q q1 (by omega) (by omega) sub hsub U
            have hsd : sub.data.toList = [l.getD q 0] := by
              have hz := str_at r q hqr
              rw [Hl.out] at hz
              rw [← hz, ← hsub, ← hq1]
              have : r.data.toList = r.data.toList.take q ++ r[q] :: r.data.toList.drop (q + 1) := by
                have h := List.take_append_drop q r.data.toList
                rw [List.drop_eq_getElem_cons (by simpa using hqr)] at h
                exact h.symm
              simp only [ByteArray.data_extract, Array.toList_extract, List.extract_eq_take_drop]
              rw [List.drop_eq_getElem_cons (by simpa using hqr)]
              rw [show q + 1 - q = 1 by omega]
              rfl
            have hss : sub.size = 1 := by
              have : sub.size = sub.data.toList.length := by simp
              rw [this, hsd]; rfl
            have hadd := fun U => run_string_add_sum (P := Try.prog) U t sub (by omega)
            obtain ⟨t2, ht2⟩ : ∃ t2, t ++ sub = t2 := ⟨_, rfl⟩
            rw [ht2] at hadd
            have HT2 : Hid (t2.data.toList = goL l (j + 1)) := by
              show t2.data.toList = _
              rw [← ht2, goL_next, ← Hsz.out, hq, ← hsd, ← KT.out]
              simp
            clear hq hq1 hsub hsd hss ht2 KT htj
            go_upto_region 10 with fail
            go_region
            all_goals go_wp2
            all_goals go_roundw
            all_goals first
              | exact ⟨j + 1, t2, by omega, by go_num, rfl, HT2, KF.out.drew⟩
              | (simp [intOf]; omega)
          · obtain rfl : j = T := by omega
            clear hlt hj
            go_wp2
            go_meet
            exact ⟨t, htj, rfl, KT, KF⟩
      case rest =>
        obtain ⟨s, hsT, rfl, HSL, HF⟩ := hcut
        subst hsT
        clear e7 e7t HT hna hnb
        obtain ⟨B, hB⟩ : ∃ B, wc.heap.size = B := ⟨_, rfl⟩
        have hnw := b_new s (by omega) 1048576 wc
        rw [hB] at hnw
        have HN := Lib.hid hnw
        have HB : Hid (w.heap.size ≤ B) := by show _ ≤ _; have := F1.out.size; have := HF.out.size; omega
        clear hnw hB
        go_upto_block 0 with (go_at_call 14; refine HN.out.mono ?_; rintro e w2 ⟨p, rfl, h1, h2⟩; have FA := Lib.hid h1; have FF : Hid (Fr (fun k => B ≤ k) w w2) := Lib.hid (((F1.out.trans HF.out (fun _ h => .inl h)).trans h2 (fun _ h => .inl h)).mono (fun _ h => h.elim)); clear h1 h2)
        clear HN F1 HF
        go_wp2
        go_loopw [8, 9, 10] (fun v8 _ _ wr => ∃ (i : Nat), i ≤ s.size ∧ v8 = .int .i64 (i : Int) ∧ Hid (BstAt wr B p s 1048576 i) ∧ Hid (Fr (fun k => B ≤ k) w wr)) (fun v8 _ _ _ => s.size - (intOf v8).toNat)
        case atStart => exact ⟨0, by omega, rfl, FA, FF⟩
        case round =>
          obtain ⟨i, hi, rfl, KA, KF⟩ := hrel
          clear FA FF
          by_cases hlt : i < s.size
          · have hlI : (i : Int) < (s.size : Int) := by omega
            have hnx := b_next KA.out (by omega) hlt
            have hll := long_law l s.size i 1048576
            rw [← HSL.out] at hll
            have hLn := bfound_le s 1048576 i
            obtain ⟨L, hL⟩ : ∃ L, bfound s 1048576 i = L := ⟨_, rfl⟩
            rw [hL] at hnx hLn
            rw [show (allH s.data.toList i (lim i 1048576)).2 = L from hL] at hll
            have hmd : most s.data.toList i = min (s.size - i) 273 := by unfold most; simp
            obtain ⟨mo, hmo⟩ : ∃ x, most s.data.toList i = x := ⟨_, rfl⟩
            rw [hmo] at hll hmd
            rw [← Hsz.out] at hll
            have HNx := Lib.hid hnx
            have HLL := Lib.hid hll
            have Hmd := Lib.hid hmd
            clear hnx hll hL hmo hmd
            go_upto_region 16 with (go_at_call 15; refine HNx.out.mono ?_; rintro e w3 ⟨v, rfl, h1, h2, h3⟩; have R3 := Lib.hid h1; have A3 := Lib.hid h2; have F3 := Lib.hid (KF.out.trans h3 (fun _ h => .inl h)); clear h1 h2 h3)
            clear HNx KA KF
            obtain ⟨ad, cap, hv⟩ := own_any R3.out
            subst hv
            have hsiI : (0 : Int) ≤ (s.size : Int) - (i : Int) := by omega
            rcases Nat.lt_or_ge 273 (s.size - i) with hc | hc
            case' inl => have hcI : (273 : Int) < (s.size : Int) - (i : Int) := by omega
            case' inr => have hcI : ¬ ((273 : Int) < (s.size : Int) - (i : Int)) := by omega
            all_goals go_upto_region 17 with fail
            all_goals first
              | (have e : (273 : Int) = (mo : Int) := by { have := Hmd.out; omega }
                 rw [e]
                 clear e)
              | (have e : (s.size : Int) - (i : Int) = (mo : Int) := by { have := Hmd.out; omega }
                 rw [e]
                 clear e)
            all_goals clear hsiI hcI hc
            all_goals
              have hcases : i < r.size ∨ (r.size ≤ i ∧ mo < 2) ∨ (r.size ≤ i ∧ 2 ≤ mo) := by omega
              rcases hcases with h | ⟨h, h2⟩ | ⟨h, h2⟩
              · have hI : (i : Int) < (r.size : Int) := by omega
                go_wp2
                go_roundw
                case rel => exact ⟨i + 1, by omega, by go_num, A3, F3⟩
                case measure => simp [intOf]; omega
              · have hI : ¬ ((i : Int) < (r.size : Int)) := by omega
                have hI2 : (mo : Int) < 2 := by omega
                go_wp2
                go_roundw
                case rel => exact ⟨i + 1, by omega, by go_num, A3, F3⟩
                case measure => simp [intOf]; omega
              · have hI : ¬ ((i : Int) < (r.size : Int)) := by omega
                have hI2 : ¬ ((mo : Int) < 2) := by omega
                obtain ⟨k, d, hk, hLk, hv, hd⟩ := HLL.out (by omega) h (by omega) h2
                obtain ⟨g, cap', hq⟩ := own_slice R3.out (by omega)
                injection hq with hqa hqb hqc
                subst hqa
                clear hqb hqc
                obtain ⟨d0, d1⟩ := found_cell R3.out k hk
                rw [hv] at d0 d1
                dsimp only at d0 d1
                rw [hLk]
                have hk0 : (0 : Int) ≤ (k : Int) := by omega
                have hkk : (k : Int) < ((k + 1 : Nat) : Int) := by omega
                have kk : ((k + 1 : Nat) : Int) - 1 = (k : Int) := by omega
                have hdI : ¬ ((r.size : Int) < (d : Int)) := by omega
                obtain ⟨N, hN⟩ : ∃ N, k + 1 = N := ⟨_, rfl⟩
                rw [hN] at hkk kk ⊢
                have hNz : ((N : Int) == 0) = false := (show ∀ x : Int, ¬ x = 0 → (x == 0) = false from fun x hx => by simp [hx]) _ (by omega)
                have hNz2 : ¬ ((N : Int) = 0) := by omega
                have hNle : N ≤ 272 := by omega
                clear hN hv hk hLk hd
                go_wp2
                go_roundw
                case rel => exact ⟨i + 1, by omega, by go_num, A3, F3⟩
                case measure => simp [intOf]; omega
          · obtain rfl : i = s.size := by omega
            clear hlt hi
            go_wp2
            go_ret
            exact ⟨rfl, KF.out.mono (fun k hk => .inr (by have := HB.out; omega))⟩
end Go.Proofs.Ytjdmkffhhlijnaa
