/- AesTurns: the walk of the law. -/
import Derived.Test.YtmcenocmilhekaaAeW
import Derived.Test.YtmcenocmilhekaaAeU
namespace Go.Proofs.Ytmcenocmilhekaa
set_option linter.unusedVariables false
open Go.RowKit Go.My Go.Aes

structure LawSt (w : World) (c : Nat) (W : List Nat) (w' : World) : Prop where
  fr : Fr (fun _ => False) w w'
  cip : Cip w' c W
theorem LawSt.next {w w1 w2 : World} {c : Nat} {W : List Nat} (h : LawSt w c W w1) (hf : Fr (fun _ => False) w1 w2) : LawSt w c W w2 := ⟨h.fr.trans hf (fun _ h => .inl h), h.cip.keep hf (fun x => x)⟩
theorem LawSt.drew {w w1 : World} {c : Nat} {W : List Nat} (h : LawSt w c W w1) : LawSt w c W w1.drew := h.next (Fr.refl _ _).drew

theorem list16 (l : List Nat) (h : l.length = 16) : ∃ x0 x1 x2 x3 x4 x5 x6 x7 x8 x9 x10 x11 x12 x13 x14 x15, l = [x0, x1, x2, x3, x4, x5, x6, x7, x8, x9, x10, x11, x12, x13, x14, x15] := by
  match l, h with
  | [x0, x1, x2, x3, x4, x5, x6, x7, x8, x9, x10, x11, x12, x13, x14, x15], _ => exact ⟨x0, x1, x2, x3, x4, x5, x6, x7, x8, x9, x10, x11, x12, x13, x14, x15, rfl⟩

set_option maxHeartbeats 4000000 in
set_option maxRecDepth 100000 in
theorem aesTurns_walk (key : ByteArray) (iv : List Nat) (hiv : iv.length = 16) (hil : ∀ i, iv.getD i 0 < 256) (s : ByteArray) (w : World) :
    Calls Try.prog 4 #[.string key, .agg (u8s iv), .string s] w fun e w' => e = .returned (.bool true) ∧ Fr (fun _ => False) w w' := by
  obtain ⟨x0, x1, x2, x3, x4, x5, x6, x7, x8, x9, x10, x11, x12, x13, x14, x15, rfl⟩ := list16 iv hiv
  obtain ⟨iv, hive⟩ : ∃ iv, [x0, x1, x2, x3, x4, x5, x6, x7, x8, x9, x10, x11, x12, x13, x14, x15] = iv := ⟨_, rfl⟩
  rw [hive] at hiv hil ⊢
  have Hive := Lib.hid hive
  have Hiv := Lib.hid hiv
  have Hil := Lib.hid hil
  clear hiv hil hive
  go_enter Try.func4, Try.ntmps4
  go_upto_region 1 with fail
  show Code.wp _ _ _ _ (w.alloc (.cells (u8s iv) 22))
  have hb := heap_alloc_new w (.cells (u8s iv) 22)
  have hf : Fr (fun _ => False) w (w.alloc (.cells (u8s iv) 22)) := (Fr.refl _ w).alloc _
  obtain ⟨p4, hp4⟩ : ∃ p, w.heap.size = p := ⟨_, rfl⟩
  obtain ⟨V, hV⟩ : ∃ V, w.alloc (.cells (u8s iv) 22) = V := ⟨_, rfl⟩
  rw [hV, hp4] at hb
  rw [hV] at hf
  rw [hV, hp4]
  have B0 := Lib.hid hb
  have F0 := Lib.hid hf
  clear hb hf hp4 hV
  go_upto_region 3 with (go_at_call 5; refine (speaks25 V).mono ?_; rintro e w1 ⟨rfl, h⟩; have F1 := Lib.hid (F0.out.trans h (fun _ h => .inl h)); have B1 := Lib.hid (h.keep B0.out (fun x => x)); clear h)
  go_cut [2] (fun v2 w' => ∃ t : ByteArray, t.size ≤ 50 ∧ v2 = .string t ∧ w' = w1)
  case first =>
    by_cases h3 : s.size ≤ 50
    all_goals
      go_wp2
      go_meet
      refine ⟨_, ?_, rfl, rfl⟩
      first | omega | (rw [ByteArray.size_extract]; split <;> omega) | (rw [ByteArray.size_extract]; omega)
  case rest =>
    obtain ⟨t, ht, rfl, rfl⟩ := hcut
    obtain ⟨K, hKe⟩ : ∃ K : ByteArray, (⟨(key32 key.data.toList).toArray⟩ : ByteArray) = K := ⟨_, rfl⟩
    have hK32 : K.size = 32 := by rw [← hKe, mk_size, key32_length]
    have hky := fun U => key_is key U
    rw [hKe] at hky
    have hnw := fun U => new_is K hK32 U
    have hW : (keyN (keyB K) 52).length = 240 := keyN_length _ (by rw [keyB_length, hK32]) 52
    have hWl := keyN_lt (keyB K) (keyB_lt K) 52 (by decide)
    have hrc := fun U => rctr_is K hK32 iv Hiv.out Hil.out t ht U
    obtain ⟨W, hWe⟩ : ∃ W, keyN (keyB K) 52 = W := ⟨_, rfl⟩
    rw [hWe] at hnw hW hWl hrc
    have hct := fun c U (h : Cip U c W) => ctr_is W iv Hiv.out Hil.out hW hWl t ht c U h
    have hl : t.data.toList.length = t.size := (Lib.size_eq t).symm
    obtain ⟨Z, hZ⟩ : ∃ Z : ByteArray, (⟨(ctrL W iv t.data.toList t.size).toArray⟩ : ByteArray) = Z := ⟨_, rfl⟩
    have hZd : Z.data.toList = ctrL W iv t.data.toList t.size := by rw [← hZ]
    have hZs : Z.size = t.size := by rw [← hZ, mk_size, ctrL_length, hl]
    have hct2 := fun c U (h : Cip U c W) => ctr_is W iv Hiv.out Hil.out hW hWl Z (by omega) c U h
    have hback : (⟨(ctrL W iv Z.data.toList Z.size).toArray⟩ : ByteArray) = t := by
      rw [hZd, hZs, ← hl, ctr_back]
    rw [hback] at hct2
    rw [hZ] at hct hrc
    have HKy := Lib.hid hky
    have HNw := Lib.hid hnw
    have HCt := Lib.hid hct
    have HC2 := Lib.hid hct2
    have HRc := Lib.hid hrc
    clear hKe hK32 hky hnw hW hWl hrc hWe hct hl hZ hZd hZs hct2 hback ht
    go_upto_region 5 with (first
      | (go_at_call 8; refine (HKy.out _).mono ?_; rintro e w2 ⟨rfl, h⟩; have F2 := Lib.hid (F1.out.trans h (fun _ h => .inl h)); have B2 := Lib.hid (h.keep B1.out (fun x => x)); clear h)
      | (go_at_call 7; refine (HNw.out w2).mono ?_; rintro e w3 ⟨c, rfl, h1, h2⟩; have C3 := Lib.hid h1; have F3 := Lib.hid (F2.out.trans h2 (fun _ h => .inl h)); have B3 := Lib.hid (h2.keep B2.out (fun x => x)); have R3 := Lib.hid (ld16 B3.out Hiv.out); clear h1 h2))
    go_upto_region 8 with (first
      | refine wpList_load_arr rfl 22 _ rfl rfl R3.out ?_
      | (go_at_call 12; refine (HCt.out _ _ C3.out).mono ?_; rintro e w4 ⟨rfl, h⟩; have F4 := Lib.hid (F3.out.trans h (fun _ h => .inl h)); have B4 := Lib.hid (h.keep B3.out (fun x => x)); have C4 := Lib.hid (C3.out.keep h (fun x => x)); clear h))
    have g4 : LawSt w c W w4.drew := (⟨F4.out, C4.out⟩ : LawSt w c W w4).drew
    have hca : u8s iv = #[.int .u8 (x0 : Int), .int .u8 (x1 : Int), .int .u8 (x2 : Int), .int .u8 (x3 : Int), .int .u8 (x4 : Int), .int .u8 (x5 : Int), .int .u8 (x6 : Int), .int .u8 (x7 : Int), .int .u8 (x8 : Int), .int .u8 (x9 : Int), .int .u8 (x10 : Int), .int .u8 (x11 : Int), .int .u8 (x12 : Int), .int .u8 (x13 : Int), .int .u8 (x14 : Int), .int .u8 (x15 : Int)] := by rw [← Hive.out]; rfl
    have hbl := B4.out
    rw [hca] at HRc HC2 hbl
    have c0 : w4.cell? ⟨p4, 0, none⟩ = some (.int .u8 (x0 : Int)) := cell_of hbl 0
    have c1 : w4.cell? ⟨p4, 1, none⟩ = some (.int .u8 (x1 : Int)) := cell_of hbl 1
    have c2 : w4.cell? ⟨p4, 2, none⟩ = some (.int .u8 (x2 : Int)) := cell_of hbl 2
    have c3 : w4.cell? ⟨p4, 3, none⟩ = some (.int .u8 (x3 : Int)) := cell_of hbl 3
    have c4 : w4.cell? ⟨p4, 4, none⟩ = some (.int .u8 (x4 : Int)) := cell_of hbl 4
    have c5 : w4.cell? ⟨p4, 5, none⟩ = some (.int .u8 (x5 : Int)) := cell_of hbl 5
    have c6 : w4.cell? ⟨p4, 6, none⟩ = some (.int .u8 (x6 : Int)) := cell_of hbl 6
    have c7 : w4.cell? ⟨p4, 7, none⟩ = some (.int .u8 (x7 : Int)) := cell_of hbl 7
    have c8 : w4.cell? ⟨p4, 8, none⟩ = some (.int .u8 (x8 : Int)) := cell_of hbl 8
    have c9 : w4.cell? ⟨p4, 9, none⟩ = some (.int .u8 (x9 : Int)) := cell_of hbl 9
    have c10 : w4.cell? ⟨p4, 10, none⟩ = some (.int .u8 (x10 : Int)) := cell_of hbl 10
    have c11 : w4.cell? ⟨p4, 11, none⟩ = some (.int .u8 (x11 : Int)) := cell_of hbl 11
    have c12 : w4.cell? ⟨p4, 12, none⟩ = some (.int .u8 (x12 : Int)) := cell_of hbl 12
    have c13 : w4.cell? ⟨p4, 13, none⟩ = some (.int .u8 (x13 : Int)) := cell_of hbl 13
    have c14 : w4.cell? ⟨p4, 14, none⟩ = some (.int .u8 (x14 : Int)) := cell_of hbl 14
    have c15 : w4.cell? ⟨p4, 15, none⟩ = some (.int .u8 (x15 : Int)) := cell_of hbl 15
    clear hbl hca F1 B1 F2 B2 F3 B3 C3 R3 F4 B4 C4 F0 B0 HCt HNw
    go_region_with (first
      | (go_at_call 8; refine (HKy.out _).mono ?_; rintro e w5 ⟨rfl, h⟩; have g5 : LawSt w c W w5 := LawSt.next (by assumption) h; have c0 : w5.cell? ⟨p4, 0, none⟩ = some (.int .u8 (x0 : Int)) := h.cell_ c0 (fun x => x); have c1 : w5.cell? ⟨p4, 1, none⟩ = some (.int .u8 (x1 : Int)) := h.cell_ c1 (fun x => x); have c2 : w5.cell? ⟨p4, 2, none⟩ = some (.int .u8 (x2 : Int)) := h.cell_ c2 (fun x => x); have c3 : w5.cell? ⟨p4, 3, none⟩ = some (.int .u8 (x3 : Int)) := h.cell_ c3 (fun x => x); have c4 : w5.cell? ⟨p4, 4, none⟩ = some (.int .u8 (x4 : Int)) := h.cell_ c4 (fun x => x); have c5 : w5.cell? ⟨p4, 5, none⟩ = some (.int .u8 (x5 : Int)) := h.cell_ c5 (fun x => x); have c6 : w5.cell? ⟨p4, 6, none⟩ = some (.int .u8 (x6 : Int)) := h.cell_ c6 (fun x => x); have c7 : w5.cell? ⟨p4, 7, none⟩ = some (.int .u8 (x7 : Int)) := h.cell_ c7 (fun x => x); have c8 : w5.cell? ⟨p4, 8, none⟩ = some (.int .u8 (x8 : Int)) := h.cell_ c8 (fun x => x); have c9 : w5.cell? ⟨p4, 9, none⟩ = some (.int .u8 (x9 : Int)) := h.cell_ c9 (fun x => x); have c10 : w5.cell? ⟨p4, 10, none⟩ = some (.int .u8 (x10 : Int)) := h.cell_ c10 (fun x => x); have c11 : w5.cell? ⟨p4, 11, none⟩ = some (.int .u8 (x11 : Int)) := h.cell_ c11 (fun x => x); have c12 : w5.cell? ⟨p4, 12, none⟩ = some (.int .u8 (x12 : Int)) := h.cell_ c12 (fun x => x); have c13 : w5.cell? ⟨p4, 13, none⟩ = some (.int .u8 (x13 : Int)) := h.cell_ c13 (fun x => x); have c14 : w5.cell? ⟨p4, 14, none⟩ = some (.int .u8 (x14 : Int)) := h.cell_ c14 (fun x => x); have c15 : w5.cell? ⟨p4, 15, none⟩ = some (.int .u8 (x15 : Int)) := h.cell_ c15 (fun x => x); clear h)
      | (go_at_call 13; refine (HRc.out _).mono ?_; rintro e w5 ⟨rfl, h⟩; have g5 : LawSt w c W w5 := LawSt.next (by assumption) h; have c0 : w5.cell? ⟨p4, 0, none⟩ = some (.int .u8 (x0 : Int)) := h.cell_ c0 (fun x => x); have c1 : w5.cell? ⟨p4, 1, none⟩ = some (.int .u8 (x1 : Int)) := h.cell_ c1 (fun x => x); have c2 : w5.cell? ⟨p4, 2, none⟩ = some (.int .u8 (x2 : Int)) := h.cell_ c2 (fun x => x); have c3 : w5.cell? ⟨p4, 3, none⟩ = some (.int .u8 (x3 : Int)) := h.cell_ c3 (fun x => x); have c4 : w5.cell? ⟨p4, 4, none⟩ = some (.int .u8 (x4 : Int)) := h.cell_ c4 (fun x => x); have c5 : w5.cell? ⟨p4, 5, none⟩ = some (.int .u8 (x5 : Int)) := h.cell_ c5 (fun x => x); have c6 : w5.cell? ⟨p4, 6, none⟩ = some (.int .u8 (x6 : Int)) := h.cell_ c6 (fun x => x); have c7 : w5.cell? ⟨p4, 7, none⟩ = some (.int .u8 (x7 : Int)) := h.cell_ c7 (fun x => x); have c8 : w5.cell? ⟨p4, 8, none⟩ = some (.int .u8 (x8 : Int)) := h.cell_ c8 (fun x => x); have c9 : w5.cell? ⟨p4, 9, none⟩ = some (.int .u8 (x9 : Int)) := h.cell_ c9 (fun x => x); have c10 : w5.cell? ⟨p4, 10, none⟩ = some (.int .u8 (x10 : Int)) := h.cell_ c10 (fun x => x); have c11 : w5.cell? ⟨p4, 11, none⟩ = some (.int .u8 (x11 : Int)) := h.cell_ c11 (fun x => x); have c12 : w5.cell? ⟨p4, 12, none⟩ = some (.int .u8 (x12 : Int)) := h.cell_ c12 (fun x => x); have c13 : w5.cell? ⟨p4, 13, none⟩ = some (.int .u8 (x13 : Int)) := h.cell_ c13 (fun x => x); have c14 : w5.cell? ⟨p4, 14, none⟩ = some (.int .u8 (x14 : Int)) := h.cell_ c14 (fun x => x); have c15 : w5.cell? ⟨p4, 15, none⟩ = some (.int .u8 (x15 : Int)) := h.cell_ c15 (fun x => x); clear h)
      | (go_at_call 12; refine (HC2.out _ _ (LawSt.cip (w := w) (by assumption))).mono ?_; rintro e w5 ⟨rfl, h⟩; have g5 : LawSt w c W w5 := LawSt.next (by assumption) h; have c0 : w5.cell? ⟨p4, 0, none⟩ = some (.int .u8 (x0 : Int)) := h.cell_ c0 (fun x => x); have c1 : w5.cell? ⟨p4, 1, none⟩ = some (.int .u8 (x1 : Int)) := h.cell_ c1 (fun x => x); have c2 : w5.cell? ⟨p4, 2, none⟩ = some (.int .u8 (x2 : Int)) := h.cell_ c2 (fun x => x); have c3 : w5.cell? ⟨p4, 3, none⟩ = some (.int .u8 (x3 : Int)) := h.cell_ c3 (fun x => x); have c4 : w5.cell? ⟨p4, 4, none⟩ = some (.int .u8 (x4 : Int)) := h.cell_ c4 (fun x => x); have c5 : w5.cell? ⟨p4, 5, none⟩ = some (.int .u8 (x5 : Int)) := h.cell_ c5 (fun x => x); have c6 : w5.cell? ⟨p4, 6, none⟩ = some (.int .u8 (x6 : Int)) := h.cell_ c6 (fun x => x); have c7 : w5.cell? ⟨p4, 7, none⟩ = some (.int .u8 (x7 : Int)) := h.cell_ c7 (fun x => x); have c8 : w5.cell? ⟨p4, 8, none⟩ = some (.int .u8 (x8 : Int)) := h.cell_ c8 (fun x => x); have c9 : w5.cell? ⟨p4, 9, none⟩ = some (.int .u8 (x9 : Int)) := h.cell_ c9 (fun x => x); have c10 : w5.cell? ⟨p4, 10, none⟩ = some (.int .u8 (x10 : Int)) := h.cell_ c10 (fun x => x); have c11 : w5.cell? ⟨p4, 11, none⟩ = some (.int .u8 (x11 : Int)) := h.cell_ c11 (fun x => x); have c12 : w5.cell? ⟨p4, 12, none⟩ = some (.int .u8 (x12 : Int)) := h.cell_ c12 (fun x => x); have c13 : w5.cell? ⟨p4, 13, none⟩ = some (.int .u8 (x13 : Int)) := h.cell_ c13 (fun x => x); have c14 : w5.cell? ⟨p4, 14, none⟩ = some (.int .u8 (x14 : Int)) := h.cell_ c14 (fun x => x); have c15 : w5.cell? ⟨p4, 15, none⟩ = some (.int .u8 (x15 : Int)) := h.cell_ c15 (fun x => x); clear h))
    all_goals go_wp2
    all_goals go_ret
    all_goals exact ⟨rfl, LawSt.fr (c := c) (W := W) (by assumption)⟩
end Go.Proofs.Ytmcenocmilhekaa
