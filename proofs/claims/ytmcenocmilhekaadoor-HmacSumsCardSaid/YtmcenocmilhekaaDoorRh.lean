/- Walks of layer 24's reference: the sum under a key. -/
import Derived.Test.YtmcenocmilhekaaDoorSh8
import Derived.Test.YtmcenocmilhekaaDoorHm2
namespace Go.Proofs.YtmcenocmilhekaaDoor
set_option linter.unusedVariables false
open Go.RowKit Go.My Go.Sha

theorem xor8n (a : UInt8) (x : Int) (b : UInt8) (hx : x = (b.toNat : Int)) : Go.bits .xor .u8 (a.toNat : Int) x = ((a ^^^ b).toNat : Int) := by
  rw [hx, xor8]
def turnP (key : List UInt8) (b : UInt8) (k : Nat) : List UInt8 := (List.range k).map fun i => keyB key i ^^^ b
theorem turnP_next (key : List UInt8) (b : UInt8) (k : Nat) : turnP key b (k + 1) = turnP key b k ++ [keyB key k ^^^ b] := by simp [turnP, List.range_succ]
theorem turnP_full (key : List UInt8) (b : UInt8) : turnP key b 64 = turnL key b 64 := by
  simp only [turnP, turnL]
  exact List.map_congr_left (fun i hi => by rw [if_pos (by simpa using hi)])
theorem turnP_length (key : List UInt8) (b : UInt8) (k : Nat) : (turnP key b k).length = k := by simp [turnP]
/-- A key lengthened by zeros has the same bytes. -/
theorem keyB_pad (l : List UInt8) (k i : Nat) : keyB (l ++ List.replicate k 0) i = keyB l i := by
  simp only [keyB, List.getD]
  rcases Nat.lt_or_ge i l.length with h | h
  · rw [List.getElem?_append_left h]
  · rw [List.getElem?_append_right h, List.getElem?_eq_none h, List.getElem?_replicate]
    split <;> rfl
theorem turnL_pad (l : List UInt8) (k : Nat) (b : UInt8) (j : Nat) : turnL (l ++ List.replicate k 0) b j = turnL l b j := by
  simp only [turnL, keyB_pad]

set_option maxHeartbeats 4000000 in
set_option maxRecDepth 100000 in
theorem rhsum_is (key s : ByteArray) (hk : key.size ≤ 900000) (hs : s.size ≤ 900000) (v : Value) (w : World) (hV : KRow w v) :
    Calls Tryd.prog 13 #[.string key, .string s, v] w fun e w' => e = .returned (.string (hmacS key s)) ∧ Fr (fun _ => False) w w' := by
  obtain ⟨K, hK⟩ : ∃ K, shortKey key = K := ⟨_, rfl⟩
  have hKs : K.size ≤ 64 := by rw [← hK]; exact short_size key
  obtain ⟨l, hl⟩ : ∃ l, K.data.toList = l := ⟨_, rfl⟩
  have hKl := of_list K l hl
  have hll : l.length ≤ 64 := by rw [hKl, mk_size] at hKs; exact hKs
  obtain ⟨A, hA⟩ : ∃ A : ByteArray, (⟨(turnL l 92 64).toArray⟩ : ByteArray) = A := ⟨_, rfl⟩
  obtain ⟨B, hB⟩ : ∃ B : ByteArray, (⟨(turnL l 54 64).toArray⟩ : ByteArray) = B := ⟨_, rfl⟩
  have hAs : A.size = 64 := by rw [← hA]; exact turnB_size _ _
  have hBs : B.size = 64 := by rw [← hB]; exact turnB_size _ _
  have hX : (B ++ s).size = 64 + s.size := by rw [ByteArray.size_append, hBs]
  obtain ⟨Y, hY⟩ : ∃ Y, sumS (B ++ s) = Y := ⟨_, rfl⟩
  have hYs : Y.size = 32 := by rw [← hY]; exact sumS_size _
  have h3 : ∀ W, KRow W v → Calls Tryd.prog 9 #[.string (B ++ s), v] W fun e w' => e = .returned (.string Y) ∧ Fr (fun _ => False) W w' := fun W hW => by rw [← hY]; exact rsum_is _ (by omega) v W hW
  have hZ : (A ++ Y).size = 96 := by rw [ByteArray.size_append, hAs, hYs]
  have h4 : ∀ W, KRow W v → Calls Tryd.prog 9 #[.string (A ++ Y), v] W fun e w' => e = .returned (.string (sumS (A ++ Y))) ∧ Fr (fun _ => False) W w' := fun W hW => rsum_is _ (by omega) v W hW
  have hres : hmacS key s = sumS (A ++ Y) := by unfold hmacS; rw [hK, hl, hA, hB, hY]
  have hc1 : B.size + s.size ≤ 1000000000 := by omega
  have hc2 : A.size + Y.size ≤ 1000000000 := by omega
  have h0 := fun W (hW : KRow W v) => rsum_is key (by omega) v W hW
  have H3 := Lib.hid h3
  have H4 := Lib.hid h4
  have HK := Lib.hid hK
  have HV := Lib.hid hV
  have H0 := Lib.hid h0
  have HA := Lib.hid hA
  have HB := Lib.hid hB
  have HKl := Lib.hid hKl
  have Hll := Lib.hid hll
  clear h3 h4 hX hZ hA hB hY hV hs hAs hBs hYs h0 hK hl hKl hll
  rw [hres]
  clear hres
  obtain ⟨X, hX⟩ : ∃ X, B ++ s = X := ⟨_, rfl⟩
  obtain ⟨Z, hZ⟩ : ∃ Z, A ++ Y = Z := ⟨_, rfl⟩
  rw [hX] at H3
  rw [hZ] at H4 ⊢
  obtain ⟨q, cap, hvq, _⟩ := HV.out
  subst hvq
  go_enter Tryd.func13, Tryd.ntmps13
  by_cases hlong : 64 < key.size
  · have hl : (64 : Int) < key.size := by omega
    have hKe : sumS key = K := by rw [← HK.out]; unfold shortKey; rw [if_pos hlong]
    rw [hKe] at H0
    clear hlong HK hKe
    go_upto_block 0 with (go_at_call 9; refine (H0.out _ HV.out).mono ?_; rintro e W0 ⟨rfl, h⟩; have KF := Lib.hid h; clear h)
    clear H0
    go_cut [0] (fun v0 wx => ∃ T : ByteArray, v0 = .string T ∧ Hid (T = ⟨(l ++ List.replicate (64 - l.length) 0).toArray⟩) ∧ wx = W0)
    case first =>
      go_wp2
      go_loop [0] (fun v0 => ∃ (k : Nat) (T : ByteArray), l.length + k ≤ 64 ∧ v0 = .string T ∧ Hid (T = ⟨(l ++ List.replicate k 0).toArray⟩)) (fun v0 => match v0 with | .string T => 64 - T.size | _ => 0)
      case atStart => exact ⟨0, _, by have := Hll.out; omega, rfl, by rw [show l ++ List.replicate 0 (0 : UInt8) = l by simp]; exact HKl.out⟩
      case round =>
        obtain ⟨k, T, hk', rfl, hT⟩ := hrel
        have hTs : T.size = l.length + k := by rw [hT.out, mk_size]; simp
        by_cases hlt : l.length + k < 64
        · have hTn : T ++ (⟨#[0]⟩ : ByteArray) = ⟨(l ++ List.replicate (k + 1) 0).toArray⟩ := by
            rw [hT.out, show (⟨#[0]⟩ : ByteArray) = ⟨([0] : List UInt8).toArray⟩ from rfl, mk_append, List.replicate_succ', ← List.append_assoc]
          obtain ⟨m, hm⟩ : ∃ m, l.length + k = m := ⟨_, rfl⟩
          rw [hm] at hTs hlt
          have hA1 : T.size + (⟨#[0]⟩ : ByteArray).size ≤ 1000000000 := by rw [hTs, show (⟨#[0]⟩ : ByteArray).size = 1 from rfl]; omega
          have hts : (m : Int) < 64 := by omega
          have hsn : (T ++ (⟨#[0]⟩ : ByteArray)).size = m + 1 := by rw [ByteArray.size_append, hTs]; rfl
          have HTn := Lib.hid hTn
          have Hsn := Lib.hid hsn
          have HA1 := Lib.hid hA1
          have Hm := Lib.hid hm
          clear hTn hsn hA1 hm hk'
          go_wp2_with (refine wpList_strcat _ _ 9 rfl rfl T ⟨#[0]⟩ rfl rfl HA1.out ?_)
          go_round
          case rel => exact ⟨k + 1, _, by have := Hm.out; omega, rfl, HTn⟩
          case measure =>
            show 64 - (T ++ (⟨#[0]⟩ : ByteArray)).size < 64 - T.size
            rw [Hsn.out, hTs]
            omega
        · have hk2 : k = 64 - l.length := by omega
          subst hk2
          have h64 : T.size = 64 := by omega
          clear hlt hTs hk'
          go_wp2
          go_meet
          exact ⟨_, rfl, hT, rfl⟩
    case rest =>
      obtain ⟨T, rfl, HT, rfl⟩ := hcut
      have hTs : T.size = 64 := by rw [HT.out, mk_size]; have := Hll.out; simp; omega
      have hTb : ∀ i (h : i < T.size), T[i] = keyB l i := fun i h => by
        have e : T = ⟨(l ++ List.replicate (64 - l.length) 0).toArray⟩ := HT.out
        subst e
        rw [← keyB_pad l (64 - l.length) i]
        have h2 : i < (l ++ List.replicate (64 - l.length) 0).length := h
        simp only [keyB, List.getD, List.getElem?_eq_getElem h2, Option.getD_some]
        rfl
      have HTb := Lib.hid hTb
      clear HT hTb HKl Hll hKs
      go_upto_block 2 with fail
      go_cut [7, 8, 9] (fun v7 v8 _ wx => v7 = .string A ∧ v8 = .string B ∧ Hid (Fr (fun _ => False) w wx))
      case first =>
        go_wp2
        go_loopw [7, 8, 9] (fun v7 v8 v9 wr => ∃ (i : Nat) (P Q : ByteArray), i ≤ 64 ∧ v7 = .string P ∧ v8 = .string Q ∧ v9 = .int .i64 (i : Int) ∧ Hid (P = ⟨(turnP l 92 i).toArray⟩) ∧ Hid (Q = ⟨(turnP l 54 i).toArray⟩) ∧ Hid (Fr (fun _ => False) w wr)) (fun _ _ v9 _ => 64 - (intOf v9).toNat)
        case atStart => exact ⟨0, _, _, by omega, rfl, rfl, rfl, rfl, rfl, KF⟩
        case round =>
          obtain ⟨i, P, Q, hi, rfl, rfl, rfl, hP, hQ, JF⟩ := hrel
          clear KF
          by_cases hlt : i < 64
          · have x0 : ∀ W, (Instr.index 9 (.string T) (.int .i64 (i : Int))).run Tryd.prog W = .ok (.int .u8 ((keyB l i).toNat : Int)) W := str_index T i (by omega) _ rfl _ (by rw [HTb.out])
            have hx1 := xor8n (keyB l i) 92 92 rfl
            have hx2 := xor8n (keyB l i) 54 54 rfl
            have hPs : P.size = i := by rw [hP.out, mk_size, turnP_length]
            have hQs : Q.size = i := by rw [hQ.out, mk_size, turnP_length]
            have hPn : P ++ (⟨#[keyB l i ^^^ 92]⟩ : ByteArray) = ⟨(turnP l 92 (i + 1)).toArray⟩ := by
              rw [hP.out, show (⟨#[keyB l i ^^^ 92]⟩ : ByteArray) = ⟨([keyB l i ^^^ 92] : List UInt8).toArray⟩ from rfl, mk_append, turnP_next]
            have hQn : Q ++ (⟨#[keyB l i ^^^ 54]⟩ : ByteArray) = ⟨(turnP l 54 (i + 1)).toArray⟩ := by
              rw [hQ.out, show (⟨#[keyB l i ^^^ 54]⟩ : ByteArray) = ⟨([keyB l i ^^^ 54] : List UInt8).toArray⟩ from rfl, mk_append, turnP_next]
            have hcP : P.size + (⟨#[keyB l i ^^^ 92]⟩ : ByteArray).size ≤ 1000000000 := by rw [hPs, show (⟨#[keyB l i ^^^ 92]⟩ : ByteArray).size = 1 from rfl]; omega
            have hcQ : Q.size + (⟨#[keyB l i ^^^ 54]⟩ : ByteArray).size ≤ 1000000000 := by rw [hQs, show (⟨#[keyB l i ^^^ 54]⟩ : ByteArray).size = 1 from rfl]; omega
            have hcv1 := conv_row1 wr (keyB l i ^^^ 92) _ hx1
            have hcv2 := conv_row1 (wr.alloc (.cells #[.int .u8 (Go.bits .xor .u8 ((keyB l i).toNat : Int) 92)] 5)) (keyB l i ^^^ 54) _ hx2
            rw [show (wr.alloc (.cells #[.int .u8 (Go.bits .xor .u8 ((keyB l i).toNat : Int) 92)] 5)).heap.size = wr.heap.size + 1 by simp] at hcv2
            generalize keyB l i ^^^ 92 = b1 at *
            generalize keyB l i ^^^ 54 = b2 at *
            generalize keyB l i = kb at *
            have HPn := Lib.hid hPn
            have HQn := Lib.hid hQn
            have HC1 := Lib.hid hcv1
            have HC2 := Lib.hid hcv2
            clear hx1 hx2 hPn hQn hcv1 hcv2 hPs hQs
            go_wp2_with (first
              | refine wpList_cv 33 9 _ rfl rfl _ _ rfl HC1.out ?_
              | refine wpList_cv 33 9 _ rfl rfl _ _ rfl HC2.out ?_
              | refine wpList_strcat _ _ 9 rfl rfl P ⟨#[b1]⟩ rfl rfl hcP ?_
              | refine wpList_strcat _ _ 9 rfl rfl Q ⟨#[b2]⟩ rfl rfl hcQ ?_)
            go_roundw
            case rel => exact ⟨i + 1, _, _, by omega, rfl, rfl, by go_num, HPn, HQn, (JF.out.alloc _).alloc _⟩
            case measure => simp [intOf]; omega
          · obtain rfl : i = 64 := by omega
            have hPA : P = A := by rw [hP.out, turnP_full, HA.out]
            have hQB : Q = B := by rw [hQ.out, turnP_full, HB.out]
            subst hPA hQB
            clear hlt hi
            go_wp2
            go_meet
            exact ⟨rfl, rfl, JF⟩
      case rest =>
        obtain ⟨rfl, rfl, JF⟩ := hcut
        clear KF HTb
        go_wp2_with (first
          | (refine wpList_strcat _ _ 9 rfl rfl B s rfl rfl hc1 ?_; rw [hX])
          | (refine wpList_strcat _ _ 9 rfl rfl A Y rfl rfl hc2 ?_; rw [hZ])
          | (go_at_call 9; first
              | ((with_reducible show Calls _ _ #[Value.string X, _] _ _); refine (H3.out _ (HV.out.keep JF.out)).mono ?_; rintro e w3 ⟨rfl, h⟩; have F3 := Lib.hid h; clear h)
              | ((with_reducible show Calls _ _ #[Value.string Z, _] _ _); refine (H4.out _ ((HV.out.keep JF.out).keep F3.out)).mono ?_; rintro e w4 ⟨rfl, h⟩; have F4 := Lib.hid h; clear h)))
        go_ret
        exact ⟨rfl, (JF.out.trans F3.out (fun _ h => .inl h)).trans F4.out (fun _ h => .inl h)⟩
  · have hl : ¬ (64 : Int) < key.size := by omega
    have hKe : key = K := by rw [← HK.out]; unfold shortKey; rw [if_neg hlong]
    subst hKe
    clear hlong HK
    obtain ⟨W0, hW0⟩ : ∃ W0, w = W0 := ⟨_, rfl⟩
    have KF : Hid (Fr (fun _ => False) w W0) := by subst hW0; exact Fr.refl _ _
    go_upto_block 0 with fail
    clear H0
    go_cut [0] (fun v0 wx => ∃ T : ByteArray, v0 = .string T ∧ Hid (T = ⟨(l ++ List.replicate (64 - l.length) 0).toArray⟩) ∧ wx = W0)
    case first =>
      go_wp2
      go_loop [0] (fun v0 => ∃ (k : Nat) (T : ByteArray), l.length + k ≤ 64 ∧ v0 = .string T ∧ Hid (T = ⟨(l ++ List.replicate k 0).toArray⟩)) (fun v0 => match v0 with | .string T => 64 - T.size | _ => 0)
      case atStart => exact ⟨0, _, by have := Hll.out; omega, rfl, by rw [show l ++ List.replicate 0 (0 : UInt8) = l by simp]; exact HKl.out⟩
      case round =>
        obtain ⟨k, T, hk', rfl, hT⟩ := hrel
        have hTs : T.size = l.length + k := by rw [hT.out, mk_size]; simp
        by_cases hlt : l.length + k < 64
        · have hTn : T ++ (⟨#[0]⟩ : ByteArray) = ⟨(l ++ List.replicate (k + 1) 0).toArray⟩ := by
            rw [hT.out, show (⟨#[0]⟩ : ByteArray) = ⟨([0] : List UInt8).toArray⟩ from rfl, mk_append, List.replicate_succ', ← List.append_assoc]
          obtain ⟨m, hm⟩ : ∃ m, l.length + k = m := ⟨_, rfl⟩
          rw [hm] at hTs hlt
          have hA1 : T.size + (⟨#[0]⟩ : ByteArray).size ≤ 1000000000 := by rw [hTs, show (⟨#[0]⟩ : ByteArray).size = 1 from rfl]; omega
          have hts : (m : Int) < 64 := by omega
          have hsn : (T ++ (⟨#[0]⟩ : ByteArray)).size = m + 1 := by rw [ByteArray.size_append, hTs]; rfl
          have HTn := Lib.hid hTn
          have Hsn := Lib.hid hsn
          have HA1 := Lib.hid hA1
          have Hm := Lib.hid hm
          clear hTn hsn hA1 hm hk'
          go_wp2_with (refine wpList_strcat _ _ 9 rfl rfl T ⟨#[0]⟩ rfl rfl HA1.out ?_)
          go_round
          case rel => exact ⟨k + 1, _, by have := Hm.out; omega, rfl, HTn⟩
          case measure =>
            show 64 - (T ++ (⟨#[0]⟩ : ByteArray)).size < 64 - T.size
            rw [Hsn.out, hTs]
            omega
        · have hk2 : k = 64 - l.length := by omega
          subst hk2
          have h64 : T.size = 64 := by omega
          clear hlt hTs hk'
          go_wp2
          go_meet
          exact ⟨_, rfl, hT, rfl⟩
    case rest =>
      obtain ⟨T, rfl, HT, rfl⟩ := hcut
      have hTs : T.size = 64 := by rw [HT.out, mk_size]; have := Hll.out; simp; omega
      have hTb : ∀ i (h : i < T.size), T[i] = keyB l i := fun i h => by
        have e : T = ⟨(l ++ List.replicate (64 - l.length) 0).toArray⟩ := HT.out
        subst e
        rw [← keyB_pad l (64 - l.length) i]
        have h2 : i < (l ++ List.replicate (64 - l.length) 0).length := h
        simp only [keyB, List.getD, List.getElem?_eq_getElem h2, Option.getD_some]
        rfl
      have HTb := Lib.hid hTb
      clear HT hTb HKl Hll hKs
      go_upto_block 2 with fail
      go_cut [7, 8, 9] (fun v7 v8 _ wx => v7 = .string A ∧ v8 = .string B ∧ Hid (Fr (fun _ => False) w wx))
      case first =>
        go_wp2
        go_loopw [7, 8, 9] (fun v7 v8 v9 wr => ∃ (i : Nat) (P Q : ByteArray), i ≤ 64 ∧ v7 = .string P ∧ v8 = .string Q ∧ v9 = .int .i64 (i : Int) ∧ Hid (P = ⟨(turnP l 92 i).toArray⟩) ∧ Hid (Q = ⟨(turnP l 54 i).toArray⟩) ∧ Hid (Fr (fun _ => False) w wr)) (fun _ _ v9 _ => 64 - (intOf v9).toNat)
        case atStart => exact ⟨0, _, _, by omega, rfl, rfl, rfl, rfl, rfl, KF⟩
        case round =>
          obtain ⟨i, P, Q, hi, rfl, rfl, rfl, hP, hQ, JF⟩ := hrel
          clear KF
          by_cases hlt : i < 64
          · have x0 : ∀ W, (Instr.index 9 (.string T) (.int .i64 (i : Int))).run Tryd.prog W = .ok (.int .u8 ((keyB l i).toNat : Int)) W := str_index T i (by omega) _ rfl _ (by rw [HTb.out])
            have hx1 := xor8n (keyB l i) 92 92 rfl
            have hx2 := xor8n (keyB l i) 54 54 rfl
            have hPs : P.size = i := by rw [hP.out, mk_size, turnP_length]
            have hQs : Q.size = i := by rw [hQ.out, mk_size, turnP_length]
            have hPn : P ++ (⟨#[keyB l i ^^^ 92]⟩ : ByteArray) = ⟨(turnP l 92 (i + 1)).toArray⟩ := by
              rw [hP.out, show (⟨#[keyB l i ^^^ 92]⟩ : ByteArray) = ⟨([keyB l i ^^^ 92] : List UInt8).toArray⟩ from rfl, mk_append, turnP_next]
            have hQn : Q ++ (⟨#[keyB l i ^^^ 54]⟩ : ByteArray) = ⟨(turnP l 54 (i + 1)).toArray⟩ := by
              rw [hQ.out, show (⟨#[keyB l i ^^^ 54]⟩ : ByteArray) = ⟨([keyB l i ^^^ 54] : List UInt8).toArray⟩ from rfl, mk_append, turnP_next]
            have hcP : P.size + (⟨#[keyB l i ^^^ 92]⟩ : ByteArray).size ≤ 1000000000 := by rw [hPs, show (⟨#[keyB l i ^^^ 92]⟩ : ByteArray).size = 1 from rfl]; omega
            have hcQ : Q.size + (⟨#[keyB l i ^^^ 54]⟩ : ByteArray).size ≤ 1000000000 := by rw [hQs, show (⟨#[keyB l i ^^^ 54]⟩ : ByteArray).size = 1 from rfl]; omega
            have hcv1 := conv_row1 wr (keyB l i ^^^ 92) _ hx1
            have hcv2 := conv_row1 (wr.alloc (.cells #[.int .u8 (Go.bits .xor .u8 ((keyB l i).toNat : Int) 92)] 5)) (keyB l i ^^^ 54) _ hx2
            rw [show (wr.alloc (.cells #[.int .u8 (Go.bits .xor .u8 ((keyB l i).toNat : Int) 92)] 5)).heap.size = wr.heap.size + 1 by simp] at hcv2
            generalize keyB l i ^^^ 92 = b1 at *
            generalize keyB l i ^^^ 54 = b2 at *
            generalize keyB l i = kb at *
            have HPn := Lib.hid hPn
            have HQn := Lib.hid hQn
            have HC1 := Lib.hid hcv1
            have HC2 := Lib.hid hcv2
            clear hx1 hx2 hPn hQn hcv1 hcv2 hPs hQs
            go_wp2_with (first
              | refine wpList_cv 33 9 _ rfl rfl _ _ rfl HC1.out ?_
              | refine wpList_cv 33 9 _ rfl rfl _ _ rfl HC2.out ?_
              | refine wpList_strcat _ _ 9 rfl rfl P ⟨#[b1]⟩ rfl rfl hcP ?_
              | refine wpList_strcat _ _ 9 rfl rfl Q ⟨#[b2]⟩ rfl rfl hcQ ?_)
            go_roundw
            case rel => exact ⟨i + 1, _, _, by omega, rfl, rfl, by go_num, HPn, HQn, (JF.out.alloc _).alloc _⟩
            case measure => simp [intOf]; omega
          · obtain rfl : i = 64 := by omega
            have hPA : P = A := by rw [hP.out, turnP_full, HA.out]
            have hQB : Q = B := by rw [hQ.out, turnP_full, HB.out]
            subst hPA hQB
            clear hlt hi
            go_wp2
            go_meet
            exact ⟨rfl, rfl, JF⟩
      case rest =>
        obtain ⟨rfl, rfl, JF⟩ := hcut
        clear KF HTb
        go_wp2_with (first
          | (refine wpList_strcat _ _ 9 rfl rfl B s rfl rfl hc1 ?_; rw [hX])
          | (refine wpList_strcat _ _ 9 rfl rfl A Y rfl rfl hc2 ?_; rw [hZ])
          | (go_at_call 9; first
              | ((with_reducible show Calls _ _ #[Value.string X, _] _ _); refine (H3.out _ (HV.out.keep JF.out)).mono ?_; rintro e w3 ⟨rfl, h⟩; have F3 := Lib.hid h; clear h)
              | ((with_reducible show Calls _ _ #[Value.string Z, _] _ _); refine (H4.out _ ((HV.out.keep JF.out).keep F3.out)).mono ?_; rintro e w4 ⟨rfl, h⟩; have F4 := Lib.hid h; clear h)))
        go_ret
        exact ⟨rfl, (JF.out.trans F3.out (fun _ h => .inl h)).trans F4.out (fun _ h => .inl h)⟩
end Go.Proofs.YtmcenocmilhekaaDoor
