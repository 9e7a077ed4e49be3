/- Walks of layer 25's reference: a text turned. -/
import Derived.Test.YtmcenocmilhekaaAeL
import Derived.Test.YtmcenocmilhekaaAeT
import Derived.Deep.RegionHeld
namespace Go.Proofs.Ytmcenocmilhekaa
set_option linter.unusedVariables false
open Go.RowKit Go.My Go.Aes

theorem BoxRow.keep1 {w w' : World} {v : Value} {p T : Nat} {l : List Nat} (h : BoxRow w v) (hf : Fr (fun k => k = p) w w') (hp : w.heap[p]? = some (.cells (u8s l) T (0, 0))) (hl : 0 < l.length) : BoxRow w' v := by
  obtain ⟨q, cap, hv, hc⟩ := h
  refine ⟨q, cap, hv, fun t ht => hf.cell_ (hc t ht) (fun e => ?_)⟩
  subst e
  have h0 := hc 0 (by decide)
  rw [cell_of hp 0, u8s_get l 0 hl] at h0
  cases h0
theorem KeyRow.keep1 {w w' : World} {v : Value} {W : List Nat} {p T : Nat} {l : List Nat} (h : KeyRow w v W) (hf : Fr (fun k => k = p) w w') (hp : w.heap[p]? = some (.cells (u8s l) T (0, 0))) (hl : 0 < l.length) : KeyRow w' v W := by
  obtain ⟨q, cap, hv, hc⟩ := h
  refine ⟨q, cap, hv, fun t ht => hf.cell_ (hc t ht) (fun e => ?_)⟩
  subst e
  have h0 := hc 0 (by decide)
  rw [cell_of hp 0, u8s_get l 0 hl] at h0
  cases h0
theorem str_index (s : ByteArray) (j : Nat) (h : j < s.size) (k : Int) (hk : k = j) (x : Int) (hx : ((s[j]).toNat : Int) = x) (w : World) :
    (Instr.index 9 (.string s) (.int .i64 k)).run Try.prog w = .ok (.int .u8 x) w := by
  subst hk
  subst hx
  have h0 : (0 : Int) ≤ j := by omega
  have h1 : (j : Int) < s.size := by omega
  have hu := Try.runUnderlying9
  simp [Instr.index, go_sem, h0, h]
theorem arr_index (l : List Nat) (hl : l.length = 16) (j : Nat) (h : j < 16) (k : Int) (hk : k = j) (x : Nat) (hx : l.getD j 0 = x) (w : World) :
    (Instr.index 22 (.agg (u8s l)) (.int .i64 k)).run Try.prog w = .ok (.int .u8 (x : Int)) w := by
  subst hk
  subst hx
  have h0 : (0 : Int) ≤ j := by omega
  have h1 : (j : Int) < 16 := by omega
  have hu := Try.runUnderlying22
  have hg := u8s_get l j (by omega)
  have hs : (u8s l).size = 16 := by rw [u8s_size, hl]
  generalize u8s l = A at *
  generalize l.getD j 0 = x at *
  have h2 : ¬ 16 ≤ j := by omega
  simp [Instr.index, go_sem, h0, hg, part, h2]

set_option maxHeartbeats 4000000 in
set_option maxRecDepth 100000 in
theorem rctr_is (key : ByteArray) (hk : key.size = 32) (iv : List Nat) (hiv : iv.length = 16) (hil : ∀ i, iv.getD i 0 < 256) (s : ByteArray) (hs : s.size ≤ 50) (w : World) :
    Calls Try.prog 13 #[.string key, .agg (u8s iv), .string s] w fun e w' => e = .returned (.string ⟨(ctrL (keyN (keyB key) 52) iv s.data.toList s.size).toArray⟩) ∧ Fr (fun _ => False) w w' := by
  have hW : (keyN (keyB key) 52).length = 240 := keyN_length _ (by rw [keyB_length, hk]) 52
  have hWl := keyN_lt (keyB key) (keyB_lt key) 52 (by decide)
  have hrk := fun bx U (h : BoxRow U bx) => rkeys_is key hk bx U h
  obtain ⟨W, hWe⟩ : ∃ W, keyN (keyB key) 52 = W := ⟨_, rfl⟩
  rw [hWe] at hW hWl hrk ⊢
  obtain ⟨l, hl⟩ : ∃ l, s.data.toList = l := ⟨_, rfl⟩
  have hsz : s.size = l.length := by rw [← hl]; simp
  obtain ⟨n, hn⟩ : ∃ n, l.length = n := ⟨_, rfl⟩
  have hsn : s.size = n := by omega
  have Hn := Lib.hid hn
  have Hl := Lib.hid hl
  have Hsn := Lib.hid hsn
  have hn50 : n ≤ 50 := by omega
  have Hiv := Lib.hid hiv
  have Hil := Lib.hid hil
  have HW := Lib.hid hW
  have HWl := Lib.hid hWl
  have HRK := Lib.hid hrk
  have Hse := Lib.hid (of_list s l hl)
  rw [hl, hsn]
  clear hl hsz hn hsn hs hiv hil hW hWl hrk hk hWe
  go_enter Try.func13, Try.ntmps13
  go_upto_region 1 with fail
  show Code.wp _ _ _ _ (w.alloc (.cells (u8s iv) 22))
  have hb := heap_alloc_new w (.cells (u8s iv) 22)
  have hf : Fr (fun _ => False) w (w.alloc (.cells (u8s iv) 22)) := (Fr.refl _ w).alloc _
  obtain ⟨p4, hp4⟩ : ∃ p, w.heap.size = p := ⟨_, rfl⟩
  obtain ⟨V, hV⟩ : ∃ V, w.alloc (.cells (u8s iv) 22) = V := ⟨_, rfl⟩
  rw [hV, hp4] at hb
  rw [hV] at hf
  rw [hV, hp4]
  have HB := Lib.hid hb
  have HF := Lib.hid hf
  have Hp4 : Hid (w.heap.size = p4) := hp4
  clear hb hf hp4 hV
  go_upto_block 0 with (first
    | (go_at_call 6; refine (boxes_is V).mono ?_; rintro e w1 ⟨bx, rfl, h1, h2⟩; have X1 := Lib.hid h1; have F1 := Lib.hid (HF.out.trans h2 (fun _ h => .inl h)); have B1 := Lib.hid (h2.keep HB.out (fun x => x)); clear h1 h2)
    | (go_at_call 11; refine (HRK.out bx w1 X1.out).mono ?_; rintro e w2 ⟨kv, rfl, h1, h2⟩; have Y2 := Lib.hid h1; have X2 := Lib.hid (X1.out.keep h2); have F2 := Lib.hid (F1.out.trans h2 (fun _ h => .inl h)); have B2 := Lib.hid (h2.keep B1.out (fun x => x)); clear h1 h2))
  clear HRK X1 F1 B1 HB HF
  obtain ⟨F, hFe⟩ : ∃ F, ctrL W iv l n = F := ⟨_, rfl⟩
  have hFn : ∀ i, i < n → F.take (i + 1) = F.take i ++ [l.getD i 0 ^^^ (padB W iv i).toUInt8] := fun i hi => by
    have h : i < F.length := by rw [← hFe, ctrL_length, Hn.out]; exact hi
    have h2 := ctrL_get W iv l n i (by rw [Hn.out]; exact hi)
    rw [if_pos hi, hFe] at h2
    rw [List.take_succ_eq_append_getElem h, ← h2]
    simp [List.getD, h]
  have HFe := Lib.hid hFe
  have HFn := Lib.hid hFn
  clear hFe hFn
  go_wp2
  go_loopw [9, 10, 11] (fun v9 v10 _ wr => ∃ i : Nat, i ≤ n ∧ v10 = .int .i64 (i : Int) ∧ v9 = .string ⟨(F.take i).toArray⟩ ∧ Hid (Fr (fun _ => False) w wr) ∧ Hid (wr.heap[p4]? = some (.cells (u8s (ivN iv ((i - 1) / 16))) 22 (0, 0))) ∧ Hid (BoxRow wr bx) ∧ Hid (KeyRow wr kv W)) (fun _ v10 _ _ => n - (intOf v10).toNat)
  case atStart => exact ⟨0, by omega, rfl, rfl, F2, B2, X2, Y2⟩
  case round =>
    obtain ⟨i, hi, rfl, rfl, KF, KB, KX, KY⟩ := hrel
    clear F2 B2 X2 Y2
    by_cases hlt : i < n
    · have hlI : (i : Int) < (n : Int) := by omega
      have hnI : (s.size : Int) = (n : Int) := by have := Hsn.out; omega
      have hi0 : (0 : Int) ≤ (i : Int) := by omega
      obtain ⟨v, hv⟩ : ∃ v, ivN iv (i / 16) = v := ⟨_, rfl⟩
      have hvn : v.length = 16 := by rw [← hv, ivN_length]; exact Hiv.out
      have hvl : ∀ i, v.getD i 0 < 256 := by rw [← hv]; exact ivN_lt iv Hil.out _
      obtain ⟨PD, hPD⟩ : ∃ PD, blockL W v = PD := ⟨_, rfl⟩
      have hPn : PD.length = 16 := by rw [← hPD]; exact rndN_length W v 14
      have hPl : ∀ i, PD.getD i 0 < 256 := by rw [← hPD]; exact rndN_lt W v HWl.out hvl 14
      obtain ⟨j, hj⟩ : ∃ j, i % 16 = j := ⟨_, rfl⟩
      have hpdB : padB W iv i = PD.getD j 0 := by unfold padB; rw [hv, hPD, hj]
      obtain ⟨pd, hpd⟩ : ∃ x, PD.getD j 0 = x := ⟨_, rfl⟩
      rw [hpd] at hpdB
      have hpl : pd < 256 := by rw [← hpd]; exact hPl j
      have hsi : i < s.size := by rw [Hsn.out]; exact hlt
      obtain ⟨b0, hb0⟩ : ∃ b, s[i]'hsi = b := ⟨_, rfl⟩
      have hlb : l.getD i 0 = b0 := by
        have hil : i < l.length := by rw [Hn.out]; exact hlt
        rw [← hb0]
        have e := Hl.out
        simp only [List.getD, List.getElem?_eq_getElem hil, Option.getD_some]
        subst e
        rfl
      have hnx := HFn.out i hlt
      rw [hlb, hpdB] at hnx
      obtain ⟨xb, hxb⟩ : ∃ x, b0 ^^^ pd.toUInt8 = x := ⟨_, rfl⟩
      rw [hxb] at hnx
      have hstr : (⟨(F.take i).toArray⟩ : ByteArray) ++ (⟨#[xb]⟩ : ByteArray) = ⟨(F.take (i + 1)).toArray⟩ := by
        rw [hnx, show (⟨#[xb]⟩ : ByteArray) = ⟨([xb] : List UInt8).toArray⟩ from rfl, mk_append]
      obtain ⟨O, hO⟩ : ∃ O : ByteArray, (⟨(F.take i).toArray⟩ : ByteArray) = O := ⟨_, rfl⟩
      have hOs : O.size ≤ 50 := by rw [← hO, mk_size, List.length_take]; omega
      rw [hO] at hstr ⊢
      have Hstr := Lib.hid hstr
      have HA : O.size + (⟨#[xb]⟩ : ByteArray).size ≤ 1000000000 := by rw [show (⟨#[xb]⟩ : ByteArray).size = 1 from rfl]; omega
      have Hv := Lib.hid hv
      have Hvn := Lib.hid hvn
      have Hvl := Lib.hid hvl
      have HPD := Lib.hid hPD
      have HPn := Lib.hid hPn
      have Hpd := Lib.hid hpd
      have Hpl := Lib.hid hpl
      have Hb0 := Lib.hid hb0
      have Hxb := Lib.hid hxb
      have Hj := Lib.hid hj
      have hj16 : (j : Int) < 16 := by omega
      have hj0 : (0 : Int) ≤ (j : Int) := by omega
      clear hv hvn hvl hPD hPn hPl hpdB hpd hpl hb0 hlb hnx hxb hstr hO hOs
      by_cases h16 : 0 < i ∧ i % 16 = 0
      · obtain ⟨h0, hm⟩ := h16
        obtain rfl : j = 0 := by have := Hj.out; omega
        have h0I : (0 : Int) < (i : Int) := by omega
        have hmI : (i : Int) % 16 = 0 := by omega
        obtain ⟨v0, hv0⟩ : ∃ v0, ivN iv ((i - 1) / 16) = v0 := ⟨_, rfl⟩
        have hvv : nextL v0 16 = v := by
          rw [← hv0, ← Hv.out, show i / 16 = (i - 1) / 16 + 1 by omega]
          rfl
        have h0n : v0.length = 16 := by rw [← hv0, ivN_length]; exact Hiv.out
        have h0l : ∀ i, v0.getD i 0 < 256 := by rw [← hv0]; exact ivN_lt iv Hil.out _
        rw [hv0] at KB
        have Hvv := Lib.hid (And.intro hvv (And.intro h0n h0l))
        have H0n := Lib.hid h0n
        clear hv0 hvv h0n h0l h0 hm
        generalize wr = W0 at *
        go_upto_block 2 with fail
        go_cut [11] (fun _ wx => Hid (Fr (fun k => k = p4) W0 wx) ∧ Hid (wx.heap[p4]? = some (.cells (u8s v) 22 (0, 0))))
        case first =>
          go_wp2
          go_loopw [11] (fun v11 wr => ∃ (k : Nat) (q : List Nat), k ≤ 16 ∧ v11 = .int .i64 ((k : Int) - 1) ∧ Hid (nextL q k = v ∧ q.length = 16 ∧ ∀ i, q.getD i 0 < 256) ∧ Hid (Fr (fun k => k = p4) W0 wr) ∧ Hid (wr.heap[p4]? = some (.cells (u8s q) 22 (0, 0)))) (fun v11 _ => (intOf v11 + 1).toNat)
          case atStart => exact ⟨16, v0, by omega, rfl, Hvv, Fr.refl _ _, KB⟩
          case round =>
            obtain ⟨k, q, hk, rfl, hq, LF, LB⟩ := hrel
            by_cases hk0 : k = 0
            · subst hk0
              have hqv : q = v := hq.out.1
              subst hqv
              go_wp2
              go_meet
              exact ⟨LF, LB⟩
            · obtain ⟨m, rfl⟩ : ∃ m, k = m + 1 := ⟨k - 1, by omega⟩
              have ek : ((m + 1 : Nat) : Int) - 1 = (m : Int) := by omega
              rw [ek]
              obtain ⟨h1, h2, h3⟩ := hq.out
              obtain ⟨x, hx⟩ : ∃ x, q.getD m 0 = x := ⟨_, rfl⟩
              have hxl : x < 256 := by rw [← hx]; exact h3 m
              have c1 : wr.cell? ⟨p4, m, none⟩ = some (.int .u8 (x : Int)) := (cell_of LB.out m).trans ((u8s_get _ _ (by omega)).trans (by rw [hx]))
              have f1 := free_of LB.out m
              have hm0 : (0 : Int) ≤ (m : Int) := by omega
              have hm16 : (m : Int) < 16 := by omega
              have hst1 : nextL q (m + 1) = if (x + 1) % 256 = 0 then nextL (q.set m 0) m else q.set m ((x + 1) % 256) := by rw [← hx]; rfl
              obtain ⟨y, hy⟩ : ∃ y, (x + 1) % 256 = y := ⟨_, rfl⟩
              have hyI : ((x : Int) + 1) % 256 = (y : Int) := by omega
              rw [hy] at hst1
              have hb := block_setCell LB.out (.int .u8 (y : Int)) (off := m)
              rw [u8s_set] at hb
              have hfr := LF.out.setCell ⟨p4, m, none⟩ (.int .u8 (y : Int)) (.inl rfl)
              have MF := Lib.hid hfr
              have M1 := Lib.hid hb
              have cy : (wr.setCell ⟨p4, m, none⟩ (.int .u8 (y : Int))).cell? ⟨p4, m, none⟩ = some (.int .u8 (y : Int)) := (cell_of hb m).trans (by
                rw [u8s_get _ _ (by simp; omega)]
                simp [List.getD, show m < q.length by omega])
              have h2n : (q.set m y).length = 16 := by simp [h2]
              have hyl : y < 256 := by omega
              have h3n : ∀ i, (q.set m y).getD i 0 < 256 := set_lt q h3 m y hyl
              have H123 := Lib.hid (And.intro h2n h3n)
              by_cases hy0 : y = 0
              · subst hy0
                rw [if_pos rfl] at hst1
                have Hst := Lib.hid (hst1.symm.trans h1)
                clear hq h1 h2 h3 hx hxl hy hb hfr h2n h3n hst1 ek hk0 hyl
                go_wp2
                go_roundw
                case rel => exact ⟨m, _, by omega, by go_num, ⟨Hst.out, H123.out.1, H123.out.2⟩, MF, M1⟩
                case measure => simp [intOf]
              · rw [if_neg hy0] at hst1
                have hlN : q.set m y = v := hst1.symm.trans h1
                have hyI2 : (0 : Int) < (y : Int) := by omega
                rw [hlN] at M1
                clear hq h1 h2 h3 hx hxl hy hb hfr h2n h3n hst1 ek hk0 hyl H123 hlN
                go_wp2
                go_meet
                exact ⟨MF, M1⟩
        case rest =>
          obtain ⟨LF, LB⟩ := hcut
          have GF : Hid (Fr (fun _ => False) w wc) := Lib.hid (KF.out.trans LF.out (fun k hk => .inr (by have := Hp4.out; omega)))
          have GX : Hid (BoxRow wc bx) := Lib.hid (KX.out.keep1 LF.out KB.out (by rw [H0n.out]; decide))
          have GY : Hid (KeyRow wc kv W) := Lib.hid (KY.out.keep1 LF.out KB.out (by rw [H0n.out]; decide))
          clear KF KX KY KB LF hmI h0I
          have hR := fun U (h1 : KeyRow U kv W) (h2 : BoxRow U bx) => rblock_is W v Hvn.out Hvl.out HW.out HWl.out kv bx U h1 h2
          rw [HPD.out] at hR
          obtain ⟨cv, hcv⟩ : ∃ cv, (v.map fun x : Nat => Value.int .u8 (x : Int)) = cv := ⟨_, rfl⟩
          have hcn : cv.length = 16 := by rw [← hcv, List.length_map, Hvn.out]
          have hca : u8s v = cv.toArray := by rw [← hcv]; rfl
          rw [hca] at hR
          have r4 : wc.rangeAt p4 0 cv := by
            have h := World.rangeAt_of_block LB.out 0 16
            rw [hca] at h
            rwa [show cv.toArray.extract 0 (0 + 16) = cv.toArray by rw [show 0 + 16 = cv.toArray.size by simp [hcn]]; exact Array.extract_size] at h
          have hu := Try.underlying22
          have hi16 : (Try.prog.info? 22).map (·.size) = some cv.length := by rw [hcn]; kernel_rfl
          have x0 : ∀ U, (Instr.index 9 (.string s) (.int .i64 ((i : Int)))).run Try.prog U = .ok (.int .u8 (b0.toNat : Int)) U := str_index s i (by rw [Hsn.out]; omega) _ rfl _ (by rw [Hb0.out])
          have x1 : ∀ U, (Instr.index 22 (.agg (u8s PD)) (.int .i64 (0))).run Try.prog U = .ok (.int .u8 (pd : Int)) U := arr_index PD HPn.out 0 (by omega) _ rfl pd Hpd.out
          have hjt : (i : Int).tmod 16 = 0 := by rw [Int.tmod_eq_emod_of_nonneg (by omega)]; omega
          have hjm : (i : Int) % 16 = 0 := by omega
          have hz := xorU b0 pd Hpl.out
          rw [Hxb.out] at hz
          have HR := Lib.hid hR
          have HZ := Lib.hid hz
          have Hca := Lib.hid hca
          clear hR hcv hca hz
          go_upto_region 13 with fail
          go_region_held (fun w' => w'.rangeAt p4 0 cv) (first | assumption | (apply World.rangeAt_alloc; assumption) | go_keep_ranges) ((go_at_call 10; refine (HR.out _ (GY.out.keep (Fr.refl _ _).drew) (GX.out.keep (Fr.refl _ _).drew)).mono ?_; rintro e w5 ⟨rfl, h⟩; have F5 : Hid (Fr (fun _ => False) w w5) := Lib.hid (GF.out.drew.trans h (fun _ h => .inl h)); have B5 := Lib.hid (h.keep (show wc.drew.heap[p4]? = _ from LB.out) (fun x => x)); have X5 := Lib.hid ((GX.out.keep (Fr.refl _ _).drew).keep h); have Y5 := Lib.hid ((GY.out.keep (Fr.refl _ _).drew).keep h); have r5 : w5.rangeAt p4 0 cv := (fun j v hv => h.cell_ (r4 j v hv) (fun x => x)); have hcv1 := conv_row1 w5 xb _ HZ.out; clear h))
          all_goals go_wp2
          all_goals go_roundw
          all_goals first
            | exact ⟨i + 1, by omega, by go_num, by rw [Hstr.out], F5.out.alloc _, by rw [show (i + 1 - 1) / 16 = i / 16 by rw [Nat.add_sub_cancel], Hv.out]; exact block_alloc B5.out, X5.out.keep ((Fr.refl _ _).alloc _), Y5.out.keep ((Fr.refl _ _).alloc _)⟩
            | (simp [intOf]; omega)
      · have e : (i - 1) / 16 = i / 16 := by omega
        rw [e, Hv.out] at KB
        have hc : ((0 : Int) < (i : Int)) → ¬ ((i : Int) % 16 = 0) := fun h => by omega
        rcases Nat.eq_zero_or_pos i with h0 | h0
        · subst h0
          obtain rfl : j = 0 := by have := Hj.out; omega
          clear e h16 hc
          have hR := fun U (h1 : KeyRow U kv W) (h2 : BoxRow U bx) => rblock_is W v Hvn.out Hvl.out HW.out HWl.out kv bx U h1 h2
          rw [HPD.out] at hR
          obtain ⟨cv, hcv⟩ : ∃ cv, (v.map fun x : Nat => Value.int .u8 (x : Int)) = cv := ⟨_, rfl⟩
          have hcn : cv.length = 16 := by rw [← hcv, List.length_map, Hvn.out]
          have hca : u8s v = cv.toArray := by rw [← hcv]; rfl
          rw [hca] at hR
          have r4 : wr.rangeAt p4 0 cv := by
            have h := World.rangeAt_of_block KB.out 0 16
            rw [hca] at h
            rwa [show cv.toArray.extract 0 (0 + 16) = cv.toArray by rw [show 0 + 16 = cv.toArray.size by simp [hcn]]; exact Array.extract_size] at h
          have hu := Try.underlying22
          have hi16 : (Try.prog.info? 22).map (·.size) = some cv.length := by rw [hcn]; kernel_rfl
          have x0 : ∀ U, (Instr.index 9 (.string s) (.int .i64 (0))).run Try.prog U = .ok (.int .u8 (b0.toNat : Int)) U := str_index s 0 (by rw [Hsn.out]; omega) _ rfl _ (by rw [Hb0.out])
          have x1 : ∀ U, (Instr.index 22 (.agg (u8s PD)) (.int .i64 (0))).run Try.prog U = .ok (.int .u8 (pd : Int)) U := arr_index PD HPn.out 0 (by omega) _ rfl pd Hpd.out
          have hz := xorU b0 pd Hpl.out
          rw [Hxb.out] at hz
          have HR := Lib.hid hR
          have HZ := Lib.hid hz
          have Hca := Lib.hid hca
          clear hR hcv hca hz
          go_upto_region 13 with fail
          go_region_held (fun w' => w'.rangeAt p4 0 cv) (first | assumption | (apply World.rangeAt_alloc; assumption) | go_keep_ranges) ((go_at_call 10; refine (HR.out _ (KY.out.keep (Fr.refl _ _).drew) (KX.out.keep (Fr.refl _ _).drew)).mono ?_; rintro e w5 ⟨rfl, h⟩; have F5 : Hid (Fr (fun _ => False) w w5) := Lib.hid (KF.out.drew.trans h (fun _ h => .inl h)); have B5 := Lib.hid (h.keep (show wr.drew.heap[p4]? = _ from KB.out) (fun x => x)); have X5 := Lib.hid ((KX.out.keep (Fr.refl _ _).drew).keep h); have Y5 := Lib.hid ((KY.out.keep (Fr.refl _ _).drew).keep h); have r5 : w5.rangeAt p4 0 cv := (fun j v hv => h.cell_ (r4 j v hv) (fun x => x)); have hcv1 := conv_row1 w5 xb _ HZ.out; clear h))
          all_goals go_wp2
          all_goals go_roundw
          all_goals first
            | exact ⟨0 + 1, by omega, by go_num, by rw [Hstr.out], F5.out.alloc _, by rw [show (0 + 1 - 1) / 16 = 0 / 16 by rw [Nat.add_sub_cancel], Hv.out]; exact block_alloc B5.out, X5.out.keep ((Fr.refl _ _).alloc _), Y5.out.keep ((Fr.refl _ _).alloc _)⟩
            | (simp [intOf]; omega)
        · have h0I : ((0 : Int) < (i : Int)) := by omega
          have h0m : ((i : Int) % 16 == 0) = false := by
            have := hc h0I
            simp [this]
          clear e h16 hc h0
          have hR := fun U (h1 : KeyRow U kv W) (h2 : BoxRow U bx) => rblock_is W v Hvn.out Hvl.out HW.out HWl.out kv bx U h1 h2
          rw [HPD.out] at hR
          obtain ⟨cv, hcv⟩ : ∃ cv, (v.map fun x : Nat => Value.int .u8 (x : Int)) = cv := ⟨_, rfl⟩
          have hcn : cv.length = 16 := by rw [← hcv, List.length_map, Hvn.out]
          have hca : u8s v = cv.toArray := by rw [← hcv]; rfl
          rw [hca] at hR
          have r4 : wr.rangeAt p4 0 cv := by
            have h := World.rangeAt_of_block KB.out 0 16
            rw [hca] at h
            rwa [show cv.toArray.extract 0 (0 + 16) = cv.toArray by rw [show 0 + 16 = cv.toArray.size by simp [hcn]]; exact Array.extract_size] at h
          have hu := Try.underlying22
          have hi16 : (Try.prog.info? 22).map (·.size) = some cv.length := by rw [hcn]; kernel_rfl
          have x0 : ∀ U, (Instr.index 9 (.string s) (.int .i64 ((i : Int)))).run Try.prog U = .ok (.int .u8 (b0.toNat : Int)) U := str_index s i (by rw [Hsn.out]; omega) _ rfl _ (by rw [Hb0.out])
          have x1 : ∀ U, (Instr.index 22 (.agg (u8s PD)) (.int .i64 ((j : Int)))).run Try.prog U = .ok (.int .u8 (pd : Int)) U := arr_index PD HPn.out j (by omega) _ rfl pd Hpd.out
          have hjt : (i : Int).tmod 16 = (j : Int) := by rw [Int.tmod_eq_emod_of_nonneg (by omega)]; omega
          have hjm : (i : Int) % 16 = (j : Int) := by omega
          have hz := xorU b0 pd Hpl.out
          rw [Hxb.out] at hz
          have HR := Lib.hid hR
          have HZ := Lib.hid hz
          have Hca := Lib.hid hca
          clear hR hcv hca hz
          go_upto_region 13 with fail
          go_region_held (fun w' => w'.rangeAt p4 0 cv) (first | assumption | (apply World.rangeAt_alloc; assumption) | go_keep_ranges) ((go_at_call 10; refine (HR.out _ (KY.out.keep (Fr.refl _ _).drew) (KX.out.keep (Fr.refl _ _).drew)).mono ?_; rintro e w5 ⟨rfl, h⟩; have F5 : Hid (Fr (fun _ => False) w w5) := Lib.hid (KF.out.drew.trans h (fun _ h => .inl h)); have B5 := Lib.hid (h.keep (show wr.drew.heap[p4]? = _ from KB.out) (fun x => x)); have X5 := Lib.hid ((KX.out.keep (Fr.refl _ _).drew).keep h); have Y5 := Lib.hid ((KY.out.keep (Fr.refl _ _).drew).keep h); have r5 : w5.rangeAt p4 0 cv := (fun j v hv => h.cell_ (r4 j v hv) (fun x => x)); have hcv1 := conv_row1 w5 xb _ HZ.out; clear h))
          all_goals go_wp2
          all_goals go_roundw
          all_goals first
            | exact ⟨i + 1, by omega, by go_num, by rw [Hstr.out], F5.out.alloc _, by rw [show (i + 1 - 1) / 16 = i / 16 by rw [Nat.add_sub_cancel], Hv.out]; exact block_alloc B5.out, X5.out.keep ((Fr.refl _ _).alloc _), Y5.out.keep ((Fr.refl _ _).alloc _)⟩
            | (simp [intOf]; omega)
    · obtain rfl : i = n := by omega
      have hF : F.take i = F := List.take_of_length_le (by rw [← HFe.out, ctrL_length, Hn.out]; exact Nat.le_refl _)
      have hsI : (s.size : Int) = (i : Int) := by have := Hsn.out; omega
      rw [hF, ← HFe.out]
      clear hF hlt hi
      go_wp2
      go_ret
      exact ⟨rfl, KF.out⟩
end Go.Proofs.Ytmcenocmilhekaa
