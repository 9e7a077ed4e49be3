/- KeysDerive: the walk of the law. -/
import Derived.Test.YtmcenocmilhekaaDoorKr
import Derived.Test.YtmcenocmilhekaaDoorRh
namespace Go.Proofs.YtmcenocmilhekaaDoor
set_option linter.unusedVariables false
open Go.RowKit Go.My Go.Sha

theorem eight_one (n : Nat) (hn : n < 64) : [Value.int .u8 (n : Int), .int .u8 0, .int .u8 0, .int .u8 0, .int .u8 0, .int .u8 0, .int .u8 0, .int .u8 0] = bytesV (eightL n 8) := by
  have h := eight_bytes n hn
  rwa [show (n : Int) / 256 = 0 by omega] at h

set_option maxHeartbeats 8000000 in
set_option maxRecDepth 100000 in
theorem keysDerive_walk (pw salt : ByteArray) (v : Int) (hv : -128 ≤ v ∧ v < 128) (w : World) (hT : KTab w) :
    Calls Tryd.prog 5 #[.string pw, .string salt, .int .i8 v] w fun e w' => e = .returned (.bool true) ∧ Fr (fun _ => False) w w' := by
  have HT := Lib.hid hT
  clear hT
  go_enter Tryd.func5, Tryd.ntmps5
  go_upto_region 3 with (go_at_call 15; refine (speaks26 _ HT.out).mono ?_; rintro e w1 ⟨rfl, h⟩; have F1 := Lib.hid h; clear h)
  go_cut [0, 1] (fun v0 v1 w' => ∃ t u : ByteArray, t.size ≤ 40 ∧ u.size ≤ 40 ∧ v0 = .string t ∧ v1 = .string u ∧ Hid (Fr (fun _ => False) w w'))
  case first =>
    by_cases h3 : pw.size ≤ 40 <;> by_cases h4 : salt.size ≤ 40
    all_goals
      go_region
      go_wp2
      go_meet
      refine ⟨_, _, ?_, ?_, rfl, rfl, F1.out.drew⟩ <;> (first | omega | (rw [ByteArray.size_extract]; split <;> omega) | (rw [ByteArray.size_extract]; omega))
  case rest =>
    obtain ⟨t, u, ht, hu, rfl, rfl, KF⟩ := hcut
    clear F1
    have hc0 : u.size + t.size ≤ 1000000000 := by omega
    have hN0 : sumS (u ++ t) = hN t u 0 := rfl
    have hs0 : (u ++ t).size ≤ 1000000 := by rw [ByteArray.size_append]; omega
    have h0 := fun vv W (hW : KRow W vv) => rsum_is (u ++ t) hs0 vv W hW
    rw [hN0] at h0
    obtain ⟨X0, hX0⟩ : ∃ X0, u ++ t = X0 := ⟨_, rfl⟩
    rw [hX0] at h0
    have H0 := Lib.hid h0
    have HX0 := Lib.hid hX0
    clear hN0 h0 hX0 hs0
    by_cases h3 : 3 < v
    · have hc3 : decide (3 < v) = true := by simpa using h3
      obtain ⟨p, hp⟩ : ∃ p : Int, v % 4 = p := ⟨_, rfl⟩
      have hpb : -128 ≤ p ∧ p ≤ 3 := by omega
      obtain ⟨r, hr⟩ : ∃ r : Nat, (r : Int) = max p 0 := ⟨p.toNat, by omega⟩
      have hr3 : r ≤ 3 := by omega
      go_upto_block 0 with (first
        | (refine wpList_strcat _ _ 9 rfl rfl u t rfl rfl hc0 ?_; rw [HX0.out])
        | (go_at_call 10; refine (constants_is _).mono ?_; rintro e w2 ⟨vk, rfl, hK, h⟩; have F2 : Hid (Fr (fun _ => False) w w2) := Lib.hid (KF.out.trans h (fun _ h => .inl h)); have HK := Lib.hid hK; clear h hK)
        | (go_at_call 9; refine (H0.out _ _ HK.out).mono ?_; rintro e w3 ⟨rfl, h⟩; have F3 : Hid (Fr (fun _ => False) w w3) := Lib.hid (F2.out.trans h (fun _ h => .inl h)); have HK3 := Lib.hid (HK.out.keep h); clear h))
      skip
      have hpow : (if 20 < if p < 0 then 0 else p then 20 else if p < 0 then 0 else p) = (r : Int) := by
        by_cases hp0 : p < 0
        · rw [if_pos hp0, if_neg (by omega)]; omega
        · rw [if_neg hp0, if_neg (by omega)]; omega
      have hd := fun W (hW : KTab W) => derive_is t u (by omega) (by omega) p r (by omega) hpow (by omega) W hW
      have hN8 : (2 : Nat) ^ r ≤ 8 := Nat.le_trans (Nat.pow_le_pow_right (by decide) hr3) (by decide)
      have Hp := Lib.hid hpb
      clear KF HX0 H0 hc0 HK F2 hpow hp hc3 h3 hv
      go_cut [10, 11] (fun v10 _ wx => v10 = .int .i64 ((2 ^ r : Nat) : Int) ∧ wx = w3)
      case first =>
        go_wp2
        go_loop [10, 11] (fun v10 v11 => ∃ i : Nat, i ≤ r ∧ v10 = .int .i64 ((2 ^ i : Nat) : Int) ∧ v11 = .int .i64 (i : Int)) (fun _ v11 => r - (intOf v11).toNat)
        case atStart => exact ⟨0, by omega, rfl, rfl⟩
        case round =>
          obtain ⟨i, hi, rfl, rfl⟩ := hrel
          by_cases hlt : i < r
          · have hc : (i : Int) < p := by omega
            have h2 : 2 ^ (i + 1) = 2 ^ i * 2 := Nat.pow_succ 2 i
            have hm8 : (2 : Nat) ^ i ≤ 8 := Nat.le_trans (Nat.pow_le_pow_right (by decide) (show i ≤ 3 by omega)) (by decide)
            have H2 := Lib.hid h2
            clear h2 hd
            generalize 2 ^ i = m at *
            go_wp2
            go_round
            case rel => exact ⟨i + 1, by omega, by rw [H2.out]; go_num, by go_num⟩
            case measure => simp [intOf]; omega
          · obtain rfl : i = r := by omega
            have hc : ¬ (i : Int) < p := by omega
            clear hd hlt
            go_wp2
            go_meet
            exact ⟨rfl, rfl⟩
      case rest =>
        obtain ⟨rfl, rfl⟩ := hcut
        obtain ⟨N, hNe⟩ : ∃ N, 2 ^ r = N := ⟨_, rfl⟩
        rw [hNe] at hd hN8 ⊢
        have HD := Lib.hid hd
        clear hd hNe hr hr3
        go_wp2
        go_loopw [9, 12] (fun v9 v12 wr => ∃ n : Nat, n ≤ N ∧ v9 = .string (hN t u n) ∧ v12 = .int .i64 (n : Int) ∧ Hid (Fr (fun _ => False) w wr) ∧ Hid (KRow wr vk)) (fun _ v12 _ => N - (intOf v12).toNat)
        case atStart => exact ⟨0, by omega, rfl, rfl, F3, HK3⟩
        case round =>
          obtain ⟨n, hn, rfl, rfl, JF, JK⟩ := hrel
          clear F3 HK3
          by_cases hln : n < N
          · have hnx : sumS (hN t u n ++ u ++ t ++ ⟨(eightL n 8).toArray⟩) = hN t u (n + 1) := rfl
            have hhs := hN_size t u n
            have hes : (⟨(eightL n 8).toArray⟩ : ByteArray).size = 8 := by rw [mk_size, eightL_length]
            have hcv := conv_row8 wr (eightL n 8) (eightL_length n 8) _ (eight_one n (by omega))
            generalize (⟨(eightL n 8).toArray⟩ : ByteArray) = E at *
            obtain ⟨hnew, hne⟩ : ∃ hnew, hN t u (n + 1) = hnew := ⟨_, rfl⟩
            rw [hne] at hnx
            have HNE := Lib.hid hne
            clear hne
            generalize hN t u n = h at *
            have hc1 : h.size + u.size ≤ 1000000000 := by omega
            obtain ⟨X1, hX1⟩ : ∃ X1, h ++ u = X1 := ⟨_, rfl⟩
            have hx1 : X1.size = 32 + u.size := by rw [← hX1, ByteArray.size_append, hhs]
            have hc2 : X1.size + t.size ≤ 1000000000 := by omega
            obtain ⟨X2, hX2⟩ : ∃ X2, X1 ++ t = X2 := ⟨_, rfl⟩
            have hx2 : X2.size = 32 + u.size + t.size := by rw [← hX2, ByteArray.size_append, hx1]
            have hc3 : X2.size + E.size ≤ 1000000000 := by omega
            obtain ⟨X3, hX3⟩ : ∃ X3, X2 ++ E = X3 := ⟨_, rfl⟩
            have hx3 : X3.size ≤ 1000000 := by rw [← hX3, ByteArray.size_append, hx2, hes]; omega
            rw [hX1, hX2, hX3] at hnx
            have hsum := fun W (hW : KRow W vk) => rsum_is X3 hx3 vk W hW
            rw [hnx] at hsum
            have HS := Lib.hid hsum
            have HX1 := Lib.hid hX1
            have HX2 := Lib.hid hX2
            have HX3 := Lib.hid hX3
            have HCV := Lib.hid hcv
            clear hsum hnx hX1 hX2 hX3 hx1 hx2 hx3 hes hhs hcv
            go_wp2_with (first
              | (refine wpList_strcat _ _ 9 rfl rfl h u rfl rfl hc1 ?_; rw [HX1.out])
              | (refine wpList_strcat _ _ 9 rfl rfl X1 t rfl rfl hc2 ?_; rw [HX2.out])
              | (refine wpList_strcat _ _ 9 rfl rfl X2 E rfl rfl hc3 ?_; rw [HX3.out])
              | refine wpList_cv 33 9 _ rfl rfl _ _ rfl HCV.out ?_
              | (go_at_call 9; refine (HS.out _ (JK.out.keep ((Fr.refl (fun _ => False) _).alloc _))).mono ?_; rintro e w4 ⟨rfl, h'⟩; have F4 : Hid (Fr (fun _ => False) w w4) := Lib.hid ((JF.out.alloc _).trans h' (fun _ h => .inl h)); have K4 := Lib.hid ((JK.out.keep ((Fr.refl (fun _ => False) _).alloc _)).keep h'); clear h'))
            go_roundw
            case rel => exact ⟨n + 1, by omega, by rw [HNE.out], by go_num, F4, K4⟩
            case measure => simp [intOf]; omega
          · obtain rfl : n = N := by omega
            clear hln hn
            have hhs := hN_size t u n
            obtain ⟨h, hh⟩ : ∃ h, hN t u n = h := ⟨_, rfl⟩
            rw [hh] at hhs HD ⊢
            have hm1 := fun W (hW : KRow W vk) => rhsum_is h ⟨#[99, 105, 112, 104, 101, 114]⟩ (by omega) (by decide) vk W hW
            have hm2 := fun W (hW : KRow W vk) => rhsum_is h ⟨#[115, 117, 109]⟩ (by omega) (by decide) vk W hW
            generalize hmacS h ⟨#[99, 105, 112, 104, 101, 114]⟩ = K1 at *
            generalize hmacS h ⟨#[115, 117, 109]⟩ = K2 at *
            have HM1 := Lib.hid hm1
            have HM2 := Lib.hid hm2
            clear hm1 hm2 hhs hh
            go_upto_region 19 with (go_at_call 16; refine (HD.out _ (HT.out.keep JF.out)).mono ?_; rintro e w5 ⟨rfl, h'⟩; have F5 : Hid (Fr (fun _ => False) w w5) := Lib.hid (JF.out.trans h' (fun _ h => .inl h)); have K5 := Lib.hid (JK.out.keep h'); clear h')
            have hb := heap_alloc_new w5 (.cells #[.string K1, .string K2] 35)
            have hf : Fr (fun _ => False) w (w5.alloc (.cells #[.string K1, .string K2] 35)) := F5.out.alloc _
            have hk' : KRow (w5.alloc (.cells #[.string K1, .string K2] 35)) vk := K5.out.keep ((Fr.refl (fun _ => False) _).alloc _)
            generalize w5.heap.size = g at *
            generalize w5.alloc (.cells #[.string K1, .string K2] 35) = W at *
            have c0 : W.cell? ⟨g, 0, none⟩ = some (.string K1) := (cell_of hb 0).trans rfl
            have c1 : W.cell? ⟨g, 1, none⟩ = some (.string K2) := (cell_of hb 1).trans rfl
            have hkd : KRow W.drew vk := hk'.keep (Fr.refl (fun _ => False) W).drew
            have HB := Lib.hid hb
            have HF := Lib.hid hf
            have HKd := Lib.hid hkd
            clear F5 K5 hb hf hk' hkd JF JK
            go_region_held3 (fun w' => w'.cell? ⟨g, 0, none⟩ = some (.string K1) ∧ w'.cell? ⟨g, 1, none⟩ = some (.string K2)) (go_keep) ((go_at_call 13; first
              | ((with_reducible show Calls _ _ #[_, Value.string ⟨#[99, 105, 112, 104, 101, 114]⟩, _] _ _); refine (HM1.out W.drew HKd.out).mono ?_; rintro e w6 ⟨rfl, h'⟩; have F6 := Lib.hid h'; have c0 : w6.cell? ⟨g, 0, none⟩ = some (.string K1) := h'.cell_ c0 (fun x => x); have c1 : w6.cell? ⟨g, 1, none⟩ = some (.string K2) := h'.cell_ c1 (fun x => x); clear h')
              | ((with_reducible show Calls _ _ #[_, Value.string ⟨#[115, 117, 109]⟩, _] _ _); refine (HM2.out w6 (HKd.out.keep F6.out)).mono ?_; rintro e w7 ⟨rfl, h'⟩; have F7 := Lib.hid h'; have c0 : w7.cell? ⟨g, 0, none⟩ = some (.string K1) := h'.cell_ c0 (fun x => x); have c1 : w7.cell? ⟨g, 1, none⟩ = some (.string K2) := h'.cell_ c1 (fun x => x); clear h')))
            go_wp2
            go_ret
            exact ⟨rfl, (HF.out.drew.trans F6.out (fun _ h => .inl h)).trans F7.out (fun _ h => .inl h)⟩
    · have hc3 : decide (3 < v) = false := by simpa using h3
      obtain ⟨p, hp⟩ : ∃ p : Int, v = p := ⟨_, rfl⟩
      have hpb : -128 ≤ p ∧ p ≤ 3 := by omega
      obtain ⟨r, hr⟩ : ∃ r : Nat, (r : Int) = max p 0 := ⟨p.toNat, by omega⟩
      have hr3 : r ≤ 3 := by omega
      go_upto_block 0 with (first
        | (refine wpList_strcat _ _ 9 rfl rfl u t rfl rfl hc0 ?_; rw [HX0.out])
        | (go_at_call 10; refine (constants_is _).mono ?_; rintro e w2 ⟨vk, rfl, hK, h⟩; have F2 : Hid (Fr (fun _ => False) w w2) := Lib.hid (KF.out.trans h (fun _ h => .inl h)); have HK := Lib.hid hK; clear h hK)
        | (go_at_call 9; refine (H0.out _ _ HK.out).mono ?_; rintro e w3 ⟨rfl, h⟩; have F3 : Hid (Fr (fun _ => False) w w3) := Lib.hid (F2.out.trans h (fun _ h => .inl h)); have HK3 := Lib.hid (HK.out.keep h); clear h))
      (try rw [show decide (3 < p) = false from decide_eq_false (by omega)])
      have hpow : (if 20 < if p < 0 then 0 else p then 20 else if p < 0 then 0 else p) = (r : Int) := by
        by_cases hp0 : p < 0
        · rw [if_pos hp0, if_neg (by omega)]; omega
        · rw [if_neg hp0, if_neg (by omega)]; omega
      have hd := fun W (hW : KTab W) => derive_is t u (by omega) (by omega) p r (by omega) hpow (by omega) W hW
      have hN8 : (2 : Nat) ^ r ≤ 8 := Nat.le_trans (Nat.pow_le_pow_right (by decide) hr3) (by decide)
      have Hp := Lib.hid hpb
      clear KF HX0 H0 hc0 HK F2 hpow hp hc3 h3 hv
      go_cut [10, 11] (fun v10 _ wx => v10 = .int .i64 ((2 ^ r : Nat) : Int) ∧ wx = w3)
      case first =>
        go_wp2
        go_loop [10, 11] (fun v10 v11 => ∃ i : Nat, i ≤ r ∧ v10 = .int .i64 ((2 ^ i : Nat) : Int) ∧ v11 = .int .i64 (i : Int)) (fun _ v11 => r - (intOf v11).toNat)
        case atStart => exact ⟨0, by omega, rfl, rfl⟩
        case round =>
          obtain ⟨i, hi, rfl, rfl⟩ := hrel
          by_cases hlt : i < r
          · have hc : (i : Int) < p := by omega
            have h2 : 2 ^ (i + 1) = 2 ^ i * 2 := Nat.pow_succ 2 i
            have hm8 : (2 : Nat) ^ i ≤ 8 := Nat.le_trans (Nat.pow_le_pow_right (by decide) (show i ≤ 3 by omega)) (by decide)
            have H2 := Lib.hid h2
            clear h2 hd
            generalize 2 ^ i = m at *
            go_wp2
            go_round
            case rel => exact ⟨i + 1, by omega, by rw [H2.out]; go_num, by go_num⟩
            case measure => simp [intOf]; omega
          · obtain rfl : i = r := by omega
            have hc : ¬ (i : Int) < p := by omega
            clear hd hlt
            go_wp2
            go_meet
            exact ⟨rfl, rfl⟩
      case rest =>
        obtain ⟨rfl, rfl⟩ := hcut
        obtain ⟨N, hNe⟩ : ∃ N, 2 ^ r = N := ⟨_, rfl⟩
        rw [hNe] at hd hN8 ⊢
        have HD := Lib.hid hd
        clear hd hNe hr hr3
        go_wp2
        go_loopw [9, 12] (fun v9 v12 wr => ∃ n : Nat, n ≤ N ∧ v9 = .string (hN t u n) ∧ v12 = .int .i64 (n : Int) ∧ Hid (Fr (fun _ => False) w wr) ∧ Hid (KRow wr vk)) (fun _ v12 _ => N - (intOf v12).toNat)
        case atStart => exact ⟨0, by omega, rfl, rfl, F3, HK3⟩
        case round =>
          obtain ⟨n, hn, rfl, rfl, JF, JK⟩ := hrel
          clear F3 HK3
          by_cases hln : n < N
          · have hnx : sumS (hN t u n ++ u ++ t ++ ⟨(eightL n 8).toArray⟩) = hN t u (n + 1) := rfl
            have hhs := hN_size t u n
            have hes : (⟨(eightL n 8).toArray⟩ : ByteArray).size = 8 := by rw [mk_size, eightL_length]
            have hcv := conv_row8 wr (eightL n 8) (eightL_length n 8) _ (eight_one n (by omega))
            generalize (⟨(eightL n 8).toArray⟩ : ByteArray) = E at *
            obtain ⟨hnew, hne⟩ : ∃ hnew, hN t u (n + 1) = hnew := ⟨_, rfl⟩
            rw [hne] at hnx
            have HNE := Lib.hid hne
            clear hne
            generalize hN t u n = h at *
            have hc1 : h.size + u.size ≤ 1000000000 := by omega
            obtain ⟨X1, hX1⟩ : ∃ X1, h ++ u = X1 := ⟨_, rfl⟩
            have hx1 : X1.size = 32 + u.size := by rw [← hX1, ByteArray.size_append, hhs]
            have hc2 : X1.size + t.size ≤ 1000000000 := by omega
            obtain ⟨X2, hX2⟩ : ∃ X2, X1 ++ t = X2 := ⟨_, rfl⟩
            have hx2 : X2.size = 32 + u.size + t.size := by rw [← hX2, ByteArray.size_append, hx1]
            have hc3 : X2.size + E.size ≤ 1000000000 := by omega
            obtain ⟨X3, hX3⟩ : ∃ X3, X2 ++ E = X3 := ⟨_, rfl⟩
            have hx3 : X3.size ≤ 1000000 := by rw [← hX3, ByteArray.size_append, hx2, hes]; omega
            rw [hX1, hX2, hX3] at hnx
            have hsum := fun W (hW : KRow W vk) => rsum_is X3 hx3 vk W hW
            rw [hnx] at hsum
            have HS := Lib.hid hsum
            have HX1 := Lib.hid hX1
            have HX2 := Lib.hid hX2
            have HX3 := Lib.hid hX3
            have HCV := Lib.hid hcv
            clear hsum hnx hX1 hX2 hX3 hx1 hx2 hx3 hes hhs hcv
            go_wp2_with (first
              | (refine wpList_strcat _ _ 9 rfl rfl h u rfl rfl hc1 ?_; rw [HX1.out])
              | (refine wpList_strcat _ _ 9 rfl rfl X1 t rfl rfl hc2 ?_; rw [HX2.out])
              | (refine wpList_strcat _ _ 9 rfl rfl X2 E rfl rfl hc3 ?_; rw [HX3.out])
              | refine wpList_cv 33 9 _ rfl rfl _ _ rfl HCV.out ?_
              | (go_at_call 9; refine (HS.out _ (JK.out.keep ((Fr.refl (fun _ => False) _).alloc _))).mono ?_; rintro e w4 ⟨rfl, h'⟩; have F4 : Hid (Fr (fun _ => False) w w4) := Lib.hid ((JF.out.alloc _).trans h' (fun _ h => .inl h)); have K4 := Lib.hid ((JK.out.keep ((Fr.refl (fun _ => False) _).alloc _)).keep h'); clear h'))
            go_roundw
            case rel => exact ⟨n + 1, by omega, by rw [HNE.out], by go_num, F4, K4⟩
            case measure => simp [intOf]; omega
          · obtain rfl : n = N := by omega
            clear hln hn
            have hhs := hN_size t u n
            obtain ⟨h, hh⟩ : ∃ h, hN t u n = h := ⟨_, rfl⟩
            rw [hh] at hhs HD ⊢
            have hm1 := fun W (hW : KRow W vk) => rhsum_is h ⟨#[99, 105, 112, 104, 101, 114]⟩ (by omega) (by decide) vk W hW
            have hm2 := fun W (hW : KRow W vk) => rhsum_is h ⟨#[115, 117, 109]⟩ (by omega) (by decide) vk W hW
            generalize hmacS h ⟨#[99, 105, 112, 104, 101, 114]⟩ = K1 at *
            generalize hmacS h ⟨#[115, 117, 109]⟩ = K2 at *
            have HM1 := Lib.hid hm1
            have HM2 := Lib.hid hm2
            clear hm1 hm2 hhs hh
            go_upto_region 19 with (go_at_call 16; refine (HD.out _ (HT.out.keep JF.out)).mono ?_; rintro e w5 ⟨rfl, h'⟩; have F5 : Hid (Fr (fun _ => False) w w5) := Lib.hid (JF.out.trans h' (fun _ h => .inl h)); have K5 := Lib.hid (JK.out.keep h'); clear h')
            have hb := heap_alloc_new w5 (.cells #[.string K1, .string K2] 35)
            have hf : Fr (fun _ => False) w (w5.alloc (.cells #[.string K1, .string K2] 35)) := F5.out.alloc _
            have hk' : KRow (w5.alloc (.cells #[.string K1, .string K2] 35)) vk := K5.out.keep ((Fr.refl (fun _ => False) _).alloc _)
            generalize w5.heap.size = g at *
            generalize w5.alloc (.cells #[.string K1, .string K2] 35) = W at *
            have c0 : W.cell? ⟨g, 0, none⟩ = some (.string K1) := (cell_of hb 0).trans rfl
            have c1 : W.cell? ⟨g, 1, none⟩ = some (.string K2) := (cell_of hb 1).trans rfl
            have hkd : KRow W.drew vk := hk'.keep (Fr.refl (fun _ => False) W).drew
            have HB := Lib.hid hb
            have HF := Lib.hid hf
            have HKd := Lib.hid hkd
            clear F5 K5 hb hf hk' hkd JF JK
            go_region_held3 (fun w' => w'.cell? ⟨g, 0, none⟩ = some (.string K1) ∧ w'.cell? ⟨g, 1, none⟩ = some (.string K2)) (go_keep) ((go_at_call 13; first
              | ((with_reducible show Calls _ _ #[_, Value.string ⟨#[99, 105, 112, 104, 101, 114]⟩, _] _ _); refine (HM1.out W.drew HKd.out).mono ?_; rintro e w6 ⟨rfl, h'⟩; have F6 := Lib.hid h'; have c0 : w6.cell? ⟨g, 0, none⟩ = some (.string K1) := h'.cell_ c0 (fun x => x); have c1 : w6.cell? ⟨g, 1, none⟩ = some (.string K2) := h'.cell_ c1 (fun x => x); clear h')
              | ((with_reducible show Calls _ _ #[_, Value.string ⟨#[115, 117, 109]⟩, _] _ _); refine (HM2.out w6 (HKd.out.keep F6.out)).mono ?_; rintro e w7 ⟨rfl, h'⟩; have F7 := Lib.hid h'; have c0 : w7.cell? ⟨g, 0, none⟩ = some (.string K1) := h'.cell_ c0 (fun x => x); have c1 : w7.cell? ⟨g, 1, none⟩ = some (.string K2) := h'.cell_ c1 (fun x => x); clear h')))
            go_wp2
            go_ret
            exact ⟨rfl, (HF.out.drew.trans F6.out (fun _ h => .inl h)).trans F7.out (fun _ h => .inl h)⟩
end Go.Proofs.YtmcenocmilhekaaDoor
