/- AesBlocks: the walk of the law. -/
import Derived.Test.YtmcenocmilhekaaAeO
import Derived.Test.YtmcenocmilhekaaMx
namespace Go.Proofs.Ytmcenocmilhekaa
set_option linter.unusedVariables false
open Go.RowKit Go.My Go.Aes

set_option maxHeartbeats 20000000 in
set_option maxRecDepth 100000 in
theorem aesBlocks_walk (key : ByteArray) (b : List Nat) (hb : b.length = 16) (hbl : ∀ i, b.getD i 0 < 256) (w : World) :
    Calls Try.prog 3 #[.string key, .agg (u8s b)] w fun e w' => e = .returned (.bool true) ∧ Fr (fun _ => False) w w' := by
  have Hb := Lib.hid hb
  have Hbl := Lib.hid hbl
  clear hb hbl
  obtain ⟨A, hA⟩ : ∃ A, u8s b = A := ⟨_, rfl⟩
  have HA := Lib.hid hA
  rw [hA]
  clear hA
  go_enter Try.func3, Try.ntmps3
  go_upto_region 1 with fail
  show Code.wp _ _ _ _ (w.alloc (.cells A 22))
  have hb := heap_alloc_new w (.cells A 22)
  have hf : Fr (fun _ => False) w (w.alloc (.cells A 22)) := (Fr.refl _ w).alloc _
  obtain ⟨p3, hp3⟩ : ∃ p, w.heap.size = p := ⟨_, rfl⟩
  obtain ⟨V, hV⟩ : ∃ V, w.alloc (.cells A 22) = V := ⟨_, rfl⟩
  rw [hV, hp3] at hb
  rw [hV] at hf
  rw [hV, hp3]
  have B0 := Lib.hid hb
  have F0 := Lib.hid hf
  clear hb hf hp3 hV
  obtain ⟨K, hKe⟩ : ∃ K : ByteArray, (⟨(key32 key.data.toList).toArray⟩ : ByteArray) = K := ⟨_, rfl⟩
  have hK32 : K.size = 32 := by rw [← hKe, mk_size, key32_length]
  have hky := fun U => key_is key U
  rw [hKe] at hky
  have hnw := fun U => new_is K hK32 U
  have hW : (keyN (keyB K) 52).length = 240 := keyN_length _ (by rw [keyB_length, hK32]) 52
  have hWl := keyN_lt (keyB K) (keyB_lt K) 52 (by decide)
  have hrk := fun bx U (h : BoxRow U bx) => rkeys_is K hK32 bx U h
  obtain ⟨W, hWe⟩ : ∃ W, keyN (keyB K) 52 = W := ⟨_, rfl⟩
  rw [hWe] at hnw hW hWl hrk
  have hbk := fun c U (h : Cip U c W) => block_is W b Hb.out Hbl.out hW hWl c U h
  have hrb := fun kv bx U (h1 : KeyRow U kv W) (h2 : BoxRow U bx) => rblock_is W b Hb.out Hbl.out hW hWl kv bx U h1 h2
  have hbn := fun U => block_nil b U
  have hcn := fun U => ctr_nil b ⟨#[97]⟩ U
  have hR16 : (blockL W b).length = 16 := rndN_length W b 14
  have heq1 := eqIn16 (blockL W b) hR16
  have hz16 : u8s (List.replicate 16 0) = #[.int .u8 0, .int .u8 0, .int .u8 0, .int .u8 0, .int .u8 0, .int .u8 0, .int .u8 0, .int .u8 0, .int .u8 0, .int .u8 0, .int .u8 0, .int .u8 0, .int .u8 0, .int .u8 0, .int .u8 0, .int .u8 0] := rfl
  have heq2 := eqIn16 (List.replicate 16 0) rfl
  rw [hz16] at hbn heq2
  rw [HA.out] at hbk hrb hbn hcn
  have hld : ∀ U : World, U.heap[p3]? = some (.cells A 22 (0, 0)) → (loadVar 22 ⟨p3, 0, none⟩).run Try.prog U = .ok (.agg A) U := fun U h => by
    rw [← HA.out] at h ⊢
    exact ld16 h Hb.out
  obtain ⟨RA, hRA⟩ : ∃ RA, u8s (blockL W b) = RA := ⟨_, rfl⟩
  rw [hRA] at hbk hrb heq1
  have HKy := Lib.hid hky
  have HNw := Lib.hid hnw
  have HRk := Lib.hid hrk
  have HBk := Lib.hid hbk
  have HRb := Lib.hid hrb
  have HBn := Lib.hid hbn
  have HCn := Lib.hid hcn
  have HLd := Lib.hid hld
  clear hKe hK32 hky hnw hW hWl hrk hWe hbk hrb hbn hcn hR16 hz16 hRA hld
  go_upto_region 6 with (first
    | (go_at_call 5; refine (speaks25 V).mono ?_; rintro e w1 ⟨rfl, h⟩; have F1 := Lib.hid (F0.out.trans h (fun _ h => .inl h)); have B1 := Lib.hid (h.keep B0.out (fun x => x)); clear h)
    | (go_at_call 6; refine (boxes_is w1).mono ?_; rintro e w2 ⟨bx, rfl, h1, h2⟩; have X2 := Lib.hid h1; have F2 := Lib.hid (F1.out.trans h2 (fun _ h => .inl h)); have B2 := Lib.hid (h2.keep B1.out (fun x => x)); clear h1 h2)
    | (go_at_call 8; refine (HKy.out w2).mono ?_; rintro e w3 ⟨rfl, h⟩; have X3 := Lib.hid (X2.out.keep h); have F3 := Lib.hid (F2.out.trans h (fun _ h => .inl h)); have B3 := Lib.hid (h.keep B2.out (fun x => x)); clear h)
    | (go_at_call 7; refine (HNw.out w3).mono ?_; rintro e w4 ⟨c, rfl, h1, h2⟩; have C4 := Lib.hid h1; have X4 := Lib.hid (X3.out.keep h2); have F4 := Lib.hid (F3.out.trans h2 (fun _ h => .inl h)); have B4 := Lib.hid (h2.keep B3.out (fun x => x)); clear h1 h2))
  have g4 : LawSt w c W w4.drew := (⟨F4.out, C4.out⟩ : LawSt w c W w4).drew
  have kx : BoxRow w4.drew bx := X4.out.keep (Fr.refl _ _).drew
  have b4 : w4.drew.heap[p3]? = some (.cells A 22 (0, 0)) := B4.out
  have G4 := Lib.hid g4
  have KX := Lib.hid kx
  have B5 := Lib.hid b4
  clear g4 kx b4 F1 B1 F2 B2 F3 B3 F4 B4 C4 F0 B0 HNw X2 X3 X4
  refine wp_region_mix 38 [(0, true), (1, true), (2, true), (3, true), (4, true), (5, true), (6, true), (7, true), (8, true), (9, true), (11, true), (10, false), (12, true), (13, true), (14, true), (15, true), (16, true), (19, true), (20, true), (21, true), (17, false), (18, true), (22, true), (23, true), (24, true), (25, true), (26, true), (27, true), (28, true), (29, true), (30, true), (31, true), (32, true), (33, true), (34, true), (35, true), (36, true), (37, true)] (by kernel_rfl) (by kernel_rfl) ?_
  simp only [planOps, List.getElem?_cons_zero, List.getElem?_cons_succ, List.drop_succ_cons, List.drop_zero]
  repeat (first | (refine mix_skip (by rfl) ?_; (simp only [Act.put, List.setIfInBounds_toArray, List.set_cons_zero, List.set_cons_succ])) | (refine mix_step (by rfl) ?_; apply Exists.intro; refine ⟨fun u => ?_, ?_⟩; (focus (first | exact quietF_load 22 _ rfl rfl (HLd.out _ (u.ok.keep B5.out (fun x => x))) | (unfold quietF; go_simp; first | done | exact ⟨rfl, rfl⟩ | (refine ⟨rfl, ?_⟩; ( first | (go_at_call 9; exact HBk.out c _ (G4.out.next u.ok).cip) | (go_at_call 8; exact HKy.out _)))))); (simp only [Act.put, List.setIfInBounds_toArray, List.set_cons_zero, List.set_cons_succ])))
  refine mix_loud (by rfl) (fun w5 hf5 K1 hK1 => ?_)
  go_wp2_with (go_at_call 11; refine (HRk.out bx _ (KX.out.keep hf5)).mono ?_; rintro e w6 ⟨kv, rfl, hk, h⟩)
  refine hK1.out _ _ h ?_
  clear hK1 K1
  have G6 := Lib.hid ((G4.out.next hf5).next h)
  have KX6 := Lib.hid ((KX.out.keep hf5).keep h)
  have KY6 := Lib.hid hk
  have B6 := Lib.hid (h.keep (hf5.keep B5.out (fun x => x)) (fun x => x))
  clear hf5 hk h G4 KX B5
  repeat (first | (refine mix_skip (by rfl) ?_; (simp only [Act.put, List.setIfInBounds_toArray, List.set_cons_zero, List.set_cons_succ])) | (refine mix_step (by rfl) ?_; apply Exists.intro; refine ⟨fun u => ?_, ?_⟩; (focus (first | fail | (unfold quietF; go_simp; first | done | exact ⟨rfl, rfl⟩ | (refine ⟨rfl, ?_⟩; ( (go_at_call 10; exact HRb.out kv bx _ (KY6.out.keep u.ok) (KX6.out.keep u.ok))))))); (simp only [Act.put, List.setIfInBounds_toArray, List.set_cons_zero, List.set_cons_succ])))
  by_cases hk32 : key.size = 32
  · have hn1 := fun U => new_is key hk32 U
    have HN1 := Lib.hid hn1
    have hkI : (key.size : Int) = 32 := by omega
    clear hn1
    repeat (first | (refine mix_skip (by rfl) ?_; (simp only [Act.put, List.setIfInBounds_toArray, List.set_cons_zero, List.set_cons_succ])) | (refine mix_step (by rfl) ?_; apply Exists.intro; refine ⟨fun u => ?_, ?_⟩; (focus (first | fail | (unfold quietF; go_simp; first | done | exact ⟨rfl, rfl⟩ | (refine ⟨rfl, ?_⟩; ( fail))))); (simp only [Act.put, List.setIfInBounds_toArray, List.set_cons_zero, List.set_cons_succ])))
    refine mix_loud (by rfl) (fun w7 hf7 K2 hK2 => ?_)
    go_wp2_with (go_at_call 7; refine (HN1.out w7).mono ?_; rintro e w8 ⟨c2, rfl, hc2, h⟩)
    refine hK2.out _ _ h ?_
    clear hK2 K2
    have G8 := Lib.hid ((G6.out.next hf7).next h)
    have B8 := Lib.hid (h.keep (hf7.keep B6.out (fun x => x)) (fun x => x))
    clear hf7 hc2 h G6 KX6 KY6 B6
    repeat (first | (refine mix_skip (by rfl) ?_; (simp only [Act.put, List.setIfInBounds_toArray, List.set_cons_zero, List.set_cons_succ])) | (refine mix_step (by rfl) ?_; apply Exists.intro; refine ⟨fun u => ?_, ?_⟩; (focus (first | exact quietF_load 22 _ rfl rfl (HLd.out _ (u.ok.keep B8.out (fun x => x))) | (unfold quietF; go_simp; first | done | exact ⟨rfl, rfl⟩ | (refine ⟨rfl, ?_⟩; ( first | (go_at_call 9; exact HBn.out _) | (go_at_call 12; exact HCn.out _)))))); (simp only [Act.put, List.setIfInBounds_toArray, List.set_cons_zero, List.set_cons_succ])))
    refine mix_nil (fun w9 hf9 => ?_)
    have hfin := (G8.out.next hf9).fr
    clear hf9 G8 B8
    go_wp2
    go_ret
    exact ⟨rfl, hfin⟩
  · have hn1 := fun U => new_nil key hk32 U
    have HN1 := Lib.hid hn1
    have hkI : ((key.size : Int) == 32) = false := by
      have : ¬ ((key.size : Int) = 32) := by omega
      simp [this]
    have hkI2 : ¬ ((key.size : Int) = 32) := by omega
    have hkI3 : ((key.size : Int) != 32) = true := by simp [bne, hkI]
    clear hn1
    repeat (first | (refine mix_skip (by rfl) ?_; (simp only [Act.put, List.setIfInBounds_toArray, List.set_cons_zero, List.set_cons_succ])) | (refine mix_step (by rfl) ?_; apply Exists.intro; refine ⟨fun u => ?_, ?_⟩; (focus (first | fail | (unfold quietF; go_simp; first | done | exact ⟨rfl, rfl⟩ | (refine ⟨rfl, ?_⟩; ( fail))))); (simp only [Act.put, List.setIfInBounds_toArray, List.set_cons_zero, List.set_cons_succ])))
    refine mix_loud (by rfl) (fun w7 hf7 K2 hK2 => ?_)
    go_wp2_with (go_at_call 7; refine (HN1.out w7).mono ?_; rintro e w8 ⟨rfl, rfl⟩)
    refine hK2.out _ _ (Fr.refl _ _) ?_
    clear hK2 K2
    have G8 := Lib.hid (G6.out.next hf7)
    have B8 := Lib.hid (hf7.keep B6.out (fun x => x))
    clear hf7 G6 KX6 KY6 B6
    repeat (first | (refine mix_skip (by rfl) ?_; (simp only [Act.put, List.setIfInBounds_toArray, List.set_cons_zero, List.set_cons_succ])) | (refine mix_step (by rfl) ?_; apply Exists.intro; refine ⟨fun u => ?_, ?_⟩; (focus (first | exact quietF_load 22 _ rfl rfl (HLd.out _ (u.ok.keep B8.out (fun x => x))) | (unfold quietF; go_simp; first | done | exact ⟨rfl, rfl⟩ | (refine ⟨rfl, ?_⟩; ( first | (go_at_call 9; exact HBn.out _) | (go_at_call 12; exact HCn.out _)))))); (simp only [Act.put, List.setIfInBounds_toArray, List.set_cons_zero, List.set_cons_succ])))
    refine mix_nil (fun w9 hf9 => ?_)
    have hfin := (G8.out.next hf9).fr
    clear hf9 G8 B8
    go_wp2
    go_ret
    exact ⟨rfl, hfin⟩
end Go.Proofs.Ytmcenocmilhekaa
