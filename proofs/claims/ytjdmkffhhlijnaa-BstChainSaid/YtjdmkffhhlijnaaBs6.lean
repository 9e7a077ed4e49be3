/- Layer 08 (bst): BstChain. -/
import Derived.Test.YtjdmkffhhlijnaaBs5
import Derived.Test.YtjdmkffhhlijnaaChF
import Derived.Test.YtjdmkffhhlijnaaBsD
namespace Go.Proofs.Ytjdmkffhhlijnaa
set_option linter.unusedVariables false
open Go.RowKit Go.My Go.Ch Go.Bs

set_option maxHeartbeats 4000000 in
set_option maxRecDepth 100000 in
theorem bstChain_walk (s0 : ByteArray) (win : Int) (hw0 : 0 ≤ win ∧ win < 256) (w : World) :
    Calls Try.prog 7 #[.string s0, .int .u8 win] w fun e w' => e = .returned (.bool true) ∧ Fr (fun _ => False) w w' := by
  obtain ⟨hwa, hwb⟩ := hw0
  go_enter Try.func7, Try.ntmps7
  go_upto_region 3 with (go_at_call 13; refine (speaks08 w).mono ?_; rintro e w1 ⟨rfl, h⟩; have F1 := Lib.hid h; clear h)
  go_cut [0] (fun v0 w' => ∃ t : ByteArray, t.size ≤ 300 ∧ v0 = .string t ∧ w' = w1)
  case first =>
    by_cases h3 : s0.size ≤ 300
    all_goals
      go_wp2
      go_meet
      refine ⟨_, ?_, rfl, rfl⟩
      first | omega | (rw [ByteArray.size_extract]; split <;> omega) | (rw [ByteArray.size_extract]; omega)
  case rest =>
    obtain ⟨s, hs, rfl, hwc⟩ := hcut
    rw [hwc]
    clear hwc
    obtain ⟨B, hB⟩ : ∃ B, w1.heap.size = B := ⟨_, rfl⟩
    have hnw := bl_new s (by omega) win w1
    rw [hB] at hnw
    have HN := Lib.hid hnw
    have HB : Hid (w.heap.size ≤ B) := by show _ ≤ _; have := F1.out.size; omega
    have hB1 := hB
    have HB1 := Lib.hid hB1
    clear hnw hB hB1
    go_upto_block 0 with (first
      | (go_at_call 14; refine HN.out.mono ?_; rintro e w2 ⟨p, rfl, h1, h2⟩; have FA := Lib.hid h1; have HBC : Hid (B ≤ w2.heap.size) := (by show _ ≤ _; have := h2.size; have := HB1.out; omega); have FF : Hid (Fr (fun k => B ≤ k) w w2) := Lib.hid ((F1.out.trans h2 (fun _ h => .inl h)).mono (fun _ h => h.elim)); clear h1 h2)
      | (go_at_call 9; refine (chnew_is s win 1048576 w2).mono ?_; rintro e w3 ⟨p2, b, rfl, h1, h2⟩; have FB := Lib.hid h1; have FG : Hid (Fr (fun k => B ≤ k) w w3) := Lib.hid (FF.out.trans h2 (fun _ h => h.elim)); have FA2 := Lib.hid (FA.out.keep h2 (fun _ h => h.elim)); clear h1 h2))
    generalize w2.heap.size = C at FA FA2 FB HBC
    clear HN F1 FA FF HB1
    go_wp2
    go_loopw [7, 8, 9, 10, 11, 12] (fun v7 _ _ _ _ _ wr => ∃ (i : Nat) (v5 : Value), i ≤ s.size ∧ v7 = .int .i64 (i : Int) ∧ Hid (BstLow wr B C p s win i) ∧ Hid (FinB wr C p2 s win 1048576 i i b v5) ∧ Hid (Fr (fun k => B ≤ k) w wr)) (fun v7 _ _ _ _ _ _ => s.size - (intOf v7).toNat)
    case atStart => exact ⟨0, _, by omega, rfl, FA2, FB, FG⟩
    case round =>
      obtain ⟨i, v5, hi, rfl, KA, KB, KF⟩ := hrel
      clear FA2 FB FG
      by_cases hlt : i < s.size
      · have hlI : (i : Int) < (s.size : Int) := by omega
        have hnx := bl_next KA.out (by omega) hlt
        have hch := fun (U : World) (h : FinB U C p2 s win 1048576 i i b v5) => next_f h hlt (by omega)
        have hft := fun (U : World) (h : FinB U C p2 s win 1048576 i i b v5) (k : Nat) (hk : FootC p2 b v5 k) => h.foot hk
        have hci := chain_is s.data.toList i win 1048576 (by omega)
        rw [hci] at hch
        have hLn := bfound_le s win i
        obtain ⟨L, hL⟩ : ∃ L, bfound s win i = L := ⟨_, rfl⟩
        rw [hL] at hnx hLn
        rw [show (allH s.data.toList i (lim i win)).2 = L from hL] at hch
        have hne := longs_next L
        have hnl := longs_le L
        have HNx := Lib.hid hnx
        have HCh := Lib.hid hch
        have HFt := Lib.hid hft
        have HNe := Lib.hid hne
        clear hnx hch hci hft hne hL
        obtain ⟨N, hN⟩ : ∃ N, L.length = N := ⟨_, rfl⟩
        have HNL := Lib.hid hN
        rw [hN] at hLn hnl
        obtain ⟨M, hM⟩ : ∃ M, (longs L).length = M := ⟨_, rfl⟩
        have HML := Lib.hid hM
        rw [hM] at hnl
        go_upto_region 9 with (first
          | (go_at_call 15; refine HNx.out.mono ?_; rintro e w4 ⟨r, rfl, h1, h2, h3⟩; have R3 := Lib.hid h1; have A3 := Lib.hid h2; have B3 := Lib.hid (KB.out.keep h3 (fun k hk => hk.2)); have F3 := Lib.hid (KF.out.trans h3 (fun k hk => .inl hk.1)); clear h1 h2 h3)
          | (go_at_call 10; refine (HCh.out w4 B3.out).mono ?_; rintro e w5 ⟨q, v6, rfl, h1, h2, h3⟩; have R4 := Lib.hid (own_keep R3.out h3 (fun k hk x => by { have := own_base R3.out hk; have := (HFt.out wr KB.out k x).2; omega })); have Q4 := Lib.hid h1; have A4 := Lib.hid (A3.out.keep h3 (fun k hk => (HFt.out w4 B3.out k hk).1)); have B4 := Lib.hid h2; have F4 := Lib.hid (F3.out.trans h3 (fun k hk => .inl (by { have := (HFt.out w4 B3.out k hk).1; have := HBC.out; omega }))); clear h1 h2 h3))
        clear HNx HCh HFt KA KB KF R3 A3 B3 F3 hN hM
        obtain ⟨ad1, cap1, hr⟩ := own_any R4.out
        subst hr
        obtain ⟨ad2, cap2, hq⟩ := own_any Q4.out
        subst hq
        rw [HNL.out, HML.out]
        obtain ⟨i0, hi0', hz0, hz1, hz2⟩ := info_parts infoF
        have Hi := Lib.hid hi0'
        have Hz0 := Lib.hid hz0
        have Hz1 := Lib.hid hz1
        have Hz2 := Lib.hid hz2
        clear hi0' hz0 hz1 hz2
        go_wp2
        go_loopw [10, 11] (fun v10 v11 wr => ∃ k : Nat, k ≤ N ∧ v11 = .int .i64 (k : Int) ∧ Hid (wr.ownsRow w5.heap.size 32 2 v10 (longs (L.take k)).length (foundV (longs (L.take k)))) ∧ Hid (Fr (fun _ => False) w5 wr)) (fun _ v11 _ => N - (intOf v11).toNat)
        case atStart => exact ⟨0, by omega, rfl, ⟨rfl, .inl ⟨rfl, rfl⟩⟩, Fr.refl _ _⟩
        case round =>
          obtain ⟨k, hk, rfl, LR, LF⟩ := hrel
          by_cases hlk : k < N
          · have hkI : (k : Int) < (N : Int) := by omega
            have hk0 : (0 : Int) ≤ (k : Int) := by omega
            have hkL : k < L.length := by rw [HNL.out]; exact hlk
            have r5 := own_keep R4.out LF.out (fun _ _ x => x)
            obtain ⟨g1, cap1', hr1⟩ := own_slice r5 (by rw [HNL.out]; omega)
            injection hr1 with hra hrb hrc
            subst hra
            clear hrb hrc
            obtain ⟨d0, d1⟩ := found_cell r5 k hkL
            have hnx := HNe.out k hkL
            have hle := longs_le (L.take k)
            have hle2 : (L.take k).length ≤ N := by rw [List.length_take, HNL.out]; omega
            obtain ⟨⟨x, y⟩, hxy⟩ : ∃ z, L[k] = z := ⟨_, rfl⟩
            rw [hxy] at hnx d0 d1
            dsimp only at hnx d0 d1
            obtain ⟨Q, hQ⟩ : ∃ Q, longs (L.take k) = Q := ⟨_, rfl⟩
            rw [hQ] at LR hnx hle
            clear r5 hxy hkL hQ
            by_cases h3 : 3 ≤ x
            · have h3I : (3 : Int) ≤ (x : Int) := by omega
              rw [if_pos h3] at hnx
              have hrl : (longs (L.take (k + 1))).length = Q.length + 1 := by rw [hnx]; simp
              have hrv : foundV (longs (L.take (k + 1))) = foundV Q ++ [.int .i64 (x : Int), .int .i64 (y : Int)] := by rw [hnx]; exact foundV_snoc _ _ _
              have HRL := Lib.hid hrl
              have HRV := Lib.hid hrv
              obtain ⟨n, hn⟩ : ∃ n, Q.length = n := ⟨_, rfl⟩
              rw [hn] at LR HRL hle
              obtain ⟨ad, cap4, hv4⟩ := own_any LR.out
              subst hv4
              clear hnx hrl hrv hn h3
              go_wp2_with (at_builtin; refine wpList_append_my _ rfl _ _ 25 rfl w5.heap.size 32 i0 (.agg #[.int .i64 0, .int .i64 0]) 2 16 Try.underlying25 Hi.out Hz0.out Hz1.out Hz2.out rfl (by decide) (.slice ad n cap4) n _ (by rfl) (LR.out.alloc _) ⟨_, 0, none⟩ 1 1 [.int .i64 (x : Int), .int .i64 (y : Int)] (by rfl) (by rfl) (World.news_of_block (cs := #[.int .i64 (x : Int), .int .i64 (y : Int)]) (t := 32) (fr := (0, 0)) (heap_alloc_new _ _)) (by simp [Value.oneCell']) (by omega) (by unfold maxLen; omega) (by omega) (by have := LF.out.size; simp; omega) _ rfl ?_; intro g cap2 w6 hown hgrow hat hlt2 hsame; have IB := Lib.hid hown; have IF : Hid (Fr (fun _ => False) w5 w6) := Lib.hid ((LF.out.alloc _).grown hgrow (fun k hk => .inr (own_base LR.out hk))); clear hown hgrow hat hlt2 hsame)
              go_roundw
              case rel => exact ⟨k + 1, by omega, by go_num, by rw [HRL.out, HRV.out]; exact IB, IF⟩
              case measure => simp [intOf]; omega
            · have h3I : ¬ ((3 : Int) ≤ (x : Int)) := by omega
              rw [if_neg h3] at hnx
              have HR0 := Lib.hid hnx
              clear hnx h3
              go_wp2
              go_roundw
              case rel => exact ⟨k + 1, by omega, by go_num, by rw [HR0.out]; exact LR, LF⟩
              case measure => simp [intOf]; omega
          · obtain rfl : k = N := by omega
            have htk : L.take k = L := by rw [← HNL.out]; exact List.take_length
            rw [htk] at LR
            have hLR := LR.out
            obtain ⟨ad3, cap3, hq⟩ := own_any hLR
            subst hq
            rw [HML.out]
            clear hlk hk htk hLR HNe
            go_wp2
            go_loopw [12] (fun v12 wr2 => ∃ k : Nat, k ≤ M ∧ v12 = .int .i64 (k : Int) ∧ Hid (Fr (fun _ => False) wr wr2)) (fun v12 _ => M - (intOf v12).toNat)
            case atStart => exact ⟨0, by omega, rfl, Fr.refl _ _⟩
            case round =>
              obtain ⟨j, hj, rfl, JF⟩ := hrel
              by_cases hlj : j < M
              · have hjI : (j : Int) < (M : Int) := by omega
                have hj0 : (0 : Int) ≤ (j : Int) := by omega
                have r5 := own_keep LR.out JF.out (fun _ _ x => x)
                have q5 := own_keep (own_keep Q4.out LF.out (fun _ _ x => x)) JF.out (fun _ _ x => x)
                obtain ⟨g1, cap1', hr1⟩ := own_slice r5 (by rw [HML.out]; omega)
                obtain ⟨g2, cap2', hr2⟩ := own_slice q5 (by rw [HML.out]; omega)
                injection hr1 with hra hrb hrc
                injection hr2 with hqa hqb hqc
                subst hra hqa
                obtain ⟨d0, d1⟩ := found_cell r5 j (by rw [HML.out]; exact hlj)
                obtain ⟨e0, e1⟩ := found_cell q5 j (by rw [HML.out]; exact hlj)
                generalize ((longs L)[j]'(by rw [HML.out]; exact hlj)).1 = x at *
                generalize ((longs L)[j]'(by rw [HML.out]; exact hlj)).2 = y at *
                clear r5 q5
                go_upto_region 20 with fail
                go_region
                all_goals go_wp2
                all_goals go_roundw
                all_goals first
                  | exact ⟨j + 1, by omega, by go_num, JF.out.drew⟩
                  | (simp [intOf]; omega)
              · obtain rfl : j = M := by omega
                clear hlj hj
                go_wp2
                go_roundw
                case rel =>
                  have hz := LF.out.trans JF.out (fun _ h => .inl h)
                  exact ⟨i + 1, _, by omega, by go_num, A4.out.keep hz (fun _ h => h.elim), B4.out.fresh hz, F4.out.trans hz (fun _ h => h.elim)⟩
                case measure => simp [intOf]; omega
      · obtain rfl : i = s.size := by omega
        clear hlt hi
        go_wp2
        go_ret
        exact ⟨rfl, KF.out.mono (fun k hk => .inr (by have := HB.out; omega))⟩
end Go.Proofs.Ytjdmkffhhlijnaa
