/- KeysRounds: the walk of the law. -/
import Derived.Test.YtmcenocmilhekaaDoorKs
namespace Go.Proofs.YtmcenocmilhekaaDoor
set_option linter.unusedVariables false
open Go.RowKit Go.My Go.Sha

theorem conv_row8 (w : World) (bs : List UInt8) (hb : bs.length = 8) (cs : List Value) (hc : cs = bytesV bs) :
    (convert 33 9 (.slice (some ⟨w.heap.size, 0, none⟩) 8 8)).run Tryd.prog (w.alloc (.cells cs.toArray 5)) = .ok (.string ⟨bs.toArray⟩) (w.alloc (.cells cs.toArray 5)) := by
  subst hc
  have h := (Br.new w 0 (Nat.zero_le _) bs (by omega)).text
  rwa [hb] at h
theorem eight_bytes (n : Nat) (hn : n < 64) : [Value.int .u8 (n : Int), .int .u8 ((n : Int) / 256), .int .u8 0, .int .u8 0, .int .u8 0, .int .u8 0, .int .u8 0, .int .u8 0] = bytesV (eightL n 8) := by
  have key : ∀ n, n < 64 → bytesV (eightL n 8) = [Value.int .u8 ((n : Nat) : Int), .int .u8 0, .int .u8 0, .int .u8 0, .int .u8 0, .int .u8 0, .int .u8 0, .int .u8 0] := by
    intro n hn
    have e : eightL n 8 = [n.toUInt8, (n / 256).toUInt8, (n / 65536).toUInt8, (n / 16777216).toUInt8, (n / 4294967296).toUInt8, (n / 1099511627776).toUInt8, (n / 281474976710656).toUInt8, (n / 72057594037927936).toUInt8] := by
      simp [eightL, List.range, List.range.loop]
    rw [e, Nat.div_eq_of_lt (by omega), Nat.div_eq_of_lt (by omega), Nat.div_eq_of_lt (by omega), Nat.div_eq_of_lt (by omega), Nat.div_eq_of_lt (by omega), Nat.div_eq_of_lt (by omega), Nat.div_eq_of_lt (by omega)]
    simp [bytesV]
    omega
  rw [key n hn, show (n : Int) / 256 = 0 by omega]

set_option maxHeartbeats 4000000 in
set_option maxRecDepth 100000 in
theorem keysRounds_walk (pw salt : ByteArray) (v : Nat) (hv : v < 256) (w : World) (hT : KTab w) :
    Calls Tryd.prog 6 #[.string pw, .string salt, .int .u8 (v : Int)] w fun e w' => e = .returned (.bool true) ∧ Fr (fun _ => False) w w' := by
  have HT := Lib.hid hT
  clear hT
  go_enter Tryd.func6, Tryd.ntmps6
  go_upto_region 3 with (go_at_call 15; refine (speaks26 _ HT.out).mono ?_; rintro e w1 ⟨rfl, h⟩; have F1 := Lib.hid h; clear h)
  go_cut [0, 1] (fun v0 v1 w' => ∃ t u : ByteArray, t.size ≤ 20 ∧ u.size ≤ 20 ∧ v0 = .string t ∧ v1 = .string u ∧ Hid (Fr (fun _ => False) w w'))
  case first =>
    by_cases h3 : pw.size ≤ 20 <;> by_cases h4 : salt.size ≤ 20
    all_goals
      go_region
      go_wp2
      go_meet
      refine ⟨_, _, ?_, ?_, rfl, rfl, F1.out.drew⟩ <;> (first | omega | (rw [ByteArray.size_extract]; split <;> omega) | (rw [ByteArray.size_extract]; omega))
  case rest =>
    obtain ⟨t, u, ht, hu, rfl, rfl, KF⟩ := hcut
    clear F1
    have hc0 : u.size + t.size ≤ 1000000000 := by omega
    have hN0 : sumS (u ++ t) = hN t u 0 := rfl
    have hs0 : (u ++ t).size ≤ 1000000 := by rw [ByteArray.size_append]; omega
    have h0 := fun W (hW : KTab W) => sum_is (u ++ t) hs0 W hW
    rw [hN0] at h0
    obtain ⟨X0, hX0⟩ : ∃ X0, u ++ t = X0 := ⟨_, rfl⟩
    rw [hX0] at h0
    have H0 := Lib.hid h0
    have HX0 := Lib.hid hX0
    obtain ⟨P, hP⟩ : ∃ P, v % 7 = P := ⟨_, rfl⟩
    have hPI : (v : Int) % 7 = (P : Int) := by omega
    have hP6 : P ≤ 6 := by omega
    clear hN0 h0 hX0 hs0 hP
    go_upto_block 0 with (first
      | (refine wpList_strcat _ _ 9 rfl rfl u t rfl rfl hc0 ?_; rw [HX0.out])
      | (go_at_call 8; refine (H0.out _ (HT.out.keep KF.out)).mono ?_; rintro e w2 ⟨rfl, h⟩; have F2 : Hid (Fr (fun _ => False) w w2) := Lib.hid (KF.out.trans h (fun _ h => .inl h)); clear h))
    (try rw [hPI])
    clear hPI KF H0 HX0 hc0
    go_wp2
    go_loopw [8, 9, 10, 11] (fun v8 v9 v10 _ wr => ∃ k n : Nat, k ≤ P + 1 ∧ Hid (n = if k = 0 then 0 else 2 ^ (k - 1)) ∧ v8 = .string (hN t u n) ∧ v9 = .int .i64 (n : Int) ∧ v10 = .int .i64 (k : Int) ∧ Hid (Fr (fun _ => False) w wr)) (fun _ _ v10 _ _ => P + 1 - (intOf v10).toNat)
    case atStart => exact ⟨0, 0, by omega, rfl, rfl, rfl, rfl, F2⟩
    case round =>
      obtain ⟨k, n, hk, hn, rfl, rfl, rfl, KF⟩ := hrel
      clear F2
      by_cases hlt : k < P + 1
      · have hkP : (k : Int) ≤ (P : Int) := by omega
        have hp2 : (2 : Nat) ^ k ≤ 64 := Nat.le_trans (Nat.pow_le_pow_right (by decide) (show k ≤ 6 by omega)) (by decide)
        have hnle : n ≤ 2 ^ k := by
          rw [hn.out]
          split
          · exact Nat.zero_le _
          · exact Nat.pow_le_pow_right (by decide) (by omega)
        have he2 : wrap64 ((2 : Int) ^ k) = ((2 ^ k : Nat) : Int) := by
          have e : ((2 : Int) ^ k) = ((2 ^ k : Nat) : Int) := by norm_cast
          have key : ∀ M : Nat, M ≤ 64 → wrap64 (M : Int) = M := fun M h => IntWalk.wrap64_in _ (by omega)
          rw [e]
          exact key _ hp2
        have hd := fun W (hW : KTab W) => derive_is t u (by omega) (by omega) (k : Int) k (by omega) (by
          rw [if_neg (show ¬ ((k : Int) < 0) by omega), if_neg (by omega)]) (by omega) W hW
        have hnx : ∀ j, j = 2 ^ k → Hid (j = if k + 1 = 0 then 0 else 2 ^ (k + 1 - 1)) := fun j h => by rw [if_neg (by omega), Nat.add_sub_cancel]; exact h
        obtain ⟨N, hNe⟩ : ∃ N, 2 ^ k = N := ⟨_, rfl⟩
        rw [hNe] at hp2 hnle he2 hd hnx
        have HD := Lib.hid hd
        have HNX := Lib.hid hnx
        have HE2 := Lib.hid he2
        clear hNe hd hnx hn
        go_upto_block 2 with fail
        go_cut [8, 9] (fun v8 v9 wx => v8 = .string (hN t u N) ∧ v9 = .int .i64 (N : Int) ∧ Hid (Fr (fun _ => False) w wx))
        case first =>
          go_wp2
          go_loopw [8, 9] (fun v8 v9 wr => ∃ n : Nat, n ≤ N ∧ v8 = .string (hN t u n) ∧ v9 = .int .i64 (n : Int) ∧ Hid (Fr (fun _ => False) w wr)) (fun _ v9 _ => N - (intOf v9).toNat)
          case atStart => exact ⟨n, hnle, rfl, rfl, KF⟩
          case round =>
            obtain ⟨n, hn, rfl, rfl, JF⟩ := hrel
            clear KF
            by_cases hln : n < N
            · have hnx : sumS (hN t u n ++ u ++ t ++ ⟨(eightL n 8).toArray⟩) = hN t u (n + 1) := rfl
              have hhs := hN_size t u n
              have hes : (⟨(eightL n 8).toArray⟩ : ByteArray).size = 8 := by rw [mk_size, eightL_length]
              have hcv := conv_row8 wr (eightL n 8) (eightL_length n 8) _ (eight_bytes n (by omega))
              generalize (⟨(eightL n 8).toArray⟩ : ByteArray) = E at *
              obtain ⟨hnew, hne⟩ : ∃ hnew, hN t u (n + 1) = hnew := ⟨_, rfl⟩
              rw [hne] at hnx
              have HNE := Lib.hid hne
              clear hne
              generalize hN t u n = h at *
              have hc1 : h.size + u.size ≤ 1000000000 := by omega
              obtain ⟨X1, hX1⟩ : ∃ X1, h ++ u = X1 := ⟨_, rfl⟩
              have hx1 : X1.size = 32 + u.size := by rw [← hX1, ByteArray.size_append, hhs]
              have hc2 : X1.size + t.size ≤ 1000000000 := by omega
              obtain ⟨X2, hX2⟩ : ∃ X2, X1 ++ t = X2 := ⟨_, rfl⟩
              have hx2 : X2.size = 32 + u.size + t.size := by rw [← hX2, ByteArray.size_append, hx1]
              have hc3 : X2.size + E.size ≤ 1000000000 := by omega
              obtain ⟨X3, hX3⟩ : ∃ X3, X2 ++ E = X3 := ⟨_, rfl⟩
              have hx3 : X3.size ≤ 1000000 := by rw [← hX3, ByteArray.size_append, hx2, hes]; omega
              rw [hX1, hX2, hX3] at hnx
              have hsum := fun W (hW : KTab W) => sum_is X3 hx3 W hW
              rw [hnx] at hsum
              have HS := Lib.hid hsum
              have HX1 := Lib.hid hX1
              have HX2 := Lib.hid hX2
              have HX3 := Lib.hid hX3
              have HCV := Lib.hid hcv
              clear hsum hnx hX1 hX2 hX3 hx1 hx2 hx3 hes hhs hcv
              go_wp2_with (first
                | (refine wpList_strcat _ _ 9 rfl rfl h u rfl rfl hc1 ?_; rw [HX1.out])
                | (refine wpList_strcat _ _ 9 rfl rfl X1 t rfl rfl hc2 ?_; rw [HX2.out])
                | (refine wpList_strcat _ _ 9 rfl rfl X2 E rfl rfl hc3 ?_; rw [HX3.out])
                | refine wpList_cv 33 9 _ rfl rfl _ _ rfl HCV.out ?_
                | (go_at_call 8; refine (HS.out _ (HT.out.keep (JF.out.alloc _))).mono ?_; rintro e w3 ⟨rfl, h'⟩; have F3 : Hid (Fr (fun _ => False) w w3) := Lib.hid ((JF.out.alloc _).trans h' (fun _ h => .inl h)); clear h'))
              go_roundw
              case rel => exact ⟨n + 1, by omega, by rw [HNE.out], by go_num, F3⟩
              case measure => simp [intOf]; omega
            · obtain rfl : n = N := by omega
              clear hln hn
              go_wp2
              go_meet
              exact ⟨rfl, rfl, JF⟩
        case rest =>
          obtain ⟨rfl, rfl, JF⟩ := hcut
          clear KF hnle
          have hhs := hN_size t u N
          obtain ⟨h, hh⟩ : ∃ h, hN t u N = h := ⟨_, rfl⟩
          rw [hh] at hhs HD ⊢
          have HH := Lib.hid hh
          have hm1 := fun W (hW : KTab W) => hsum_is h ⟨#[99, 105, 112, 104, 101, 114]⟩ (by omega) (by decide) W hW
          have hm2 := fun W (hW : KTab W) => hsum_is h ⟨#[115, 117, 109]⟩ (by omega) (by decide) W hW
          generalize hmacS h ⟨#[99, 105, 112, 104, 101, 114]⟩ = K1 at *
          generalize hmacS h ⟨#[115, 117, 109]⟩ = K2 at *
          have HM1 := Lib.hid hm1
          have HM2 := Lib.hid hm2
          clear hm1 hm2 hhs hh
          go_upto_region 14 with (go_at_call 16; refine (HD.out _ (HT.out.keep JF.out)).mono ?_; rintro e w4 ⟨rfl, h'⟩; have F4 : Hid (Fr (fun _ => False) w w4) := Lib.hid (JF.out.trans h' (fun _ h => .inl h)); clear h')
          have hb := heap_alloc_new w4 (.cells #[.string K1, .string K2] 35)
          have hf : Fr (fun _ => False) w (w4.alloc (.cells #[.string K1, .string K2] 35)) := F4.out.alloc _
          have hk' : KTab (w4.alloc (.cells #[.string K1, .string K2] 35)) := HT.out.keep hf
          generalize w4.heap.size = g at *
          generalize w4.alloc (.cells #[.string K1, .string K2] 35) = W at *
          have c0 : W.cell? ⟨g, 0, none⟩ = some (.string K1) := (cell_of hb 0).trans rfl
          have c1 : W.cell? ⟨g, 1, none⟩ = some (.string K2) := (cell_of hb 1).trans rfl
          have HB := Lib.hid hb
          have HF := Lib.hid hf
          have HK := Lib.hid hk'
          clear F4 hb hf hk' JF
          go_region_held3 (fun w' => w'.cell? ⟨g, 0, none⟩ = some (.string K1) ∧ w'.cell? ⟨g, 1, none⟩ = some (.string K2)) (go_keep) ((go_at_call 12; first
            | ((with_reducible show Calls _ _ #[_, Value.string ⟨#[99, 105, 112, 104, 101, 114]⟩] _ _); refine (HM1.out W.drew ⟨HK.out.h, HK.out.k⟩).mono ?_; rintro e w5 ⟨rfl, h'⟩; have F5 := Lib.hid h'; have c0 : w5.cell? ⟨g, 0, none⟩ = some (.string K1) := h'.cell_ c0 (fun x => x); have c1 : w5.cell? ⟨g, 1, none⟩ = some (.string K2) := h'.cell_ c1 (fun x => x); clear h')
            | ((with_reducible show Calls _ _ #[_, Value.string ⟨#[115, 117, 109]⟩] _ _); refine (HM2.out w5 (KTab.keep (w := W.drew) ⟨HK.out.h, HK.out.k⟩ F5.out)).mono ?_; rintro e w6 ⟨rfl, h'⟩; have F6 := Lib.hid h'; have c0 : w6.cell? ⟨g, 0, none⟩ = some (.string K1) := h'.cell_ c0 (fun x => x); have c1 : w6.cell? ⟨g, 1, none⟩ = some (.string K2) := h'.cell_ c1 (fun x => x); clear h')))
          go_wp2
          go_roundw
          case rel => exact ⟨k + 1, N, by omega, HNX.out N rfl, by rw [HH.out], rfl, by go_num, (HF.out.drew.trans F5.out (fun _ h => .inl h)).trans F6.out (fun _ h => .inl h)⟩
          case measure => simp [intOf]; omega
      · obtain rfl : k = P + 1 := by omega
        clear hlt hk hn
        go_wp2
        go_ret
        exact ⟨rfl, KF.out⟩
end Go.Proofs.YtmcenocmilhekaaDoor
