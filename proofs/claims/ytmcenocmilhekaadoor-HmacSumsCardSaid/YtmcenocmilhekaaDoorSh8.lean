/- Walks of layer 23's reference: the sum of a text. -/
import Derived.Test.YtmcenocmilhekaaDoorSh7
import Derived.Test.YtmcenocmilhekaaDoorOps2
namespace Go.Proofs.YtmcenocmilhekaaDoor
set_option linter.unusedVariables false
open Go.RowKit Go.My Go.Sha

def fA (i : Nat) : List Nat := first.list.take i ++ List.replicate (8 - i) 0
theorem fA_set (i : Nat) (h : i < 8) : (fA i).set i (first.list.getD i 0) = fA (i + 1) := by
  match i, h with
  | 0, _ => rfl
  | 1, _ => rfl
  | 2, _ => rfl
  | 3, _ => rfl
  | 4, _ => rfl
  | 5, _ => rfl
  | 6, _ => rfl
  | 7, _ => rfl
theorem fA_length (i : Nat) (h : i ≤ 8) : (fA i).length = 8 := by
  match i, h with
  | 0, _ => rfl
  | 1, _ => rfl
  | 2, _ => rfl
  | 3, _ => rfl
  | 4, _ => rfl
  | 5, _ => rfl
  | 6, _ => rfl
  | 7, _ => rfl
  | 8, _ => rfl
def tailR (n i : Nat) : List UInt8 := (tailL n 8).drop (8 - i)
theorem tailR_succ (n i : Nat) (h : i < 8) : tailR n (i + 1) = tailB n (7 - i) :: tailR n i := by
  match i, h with
  | 0, _ => rfl
  | 1, _ => rfl
  | 2, _ => rfl
  | 3, _ => rfl
  | 4, _ => rfl
  | 5, _ => rfl
  | 6, _ => rfl
  | 7, _ => rfl

theorem turned_l (x n : Nat) (k : Int) (hk : k = n) (hx : x < 4294967296) (hn2 : n < 32) (w : World) :
    Calls Tryd.prog 21 #[.int .u32 (x : Int), .int .i64 k] w fun e w' => e = .returned (.int .u32 (ror x n : Nat)) ∧ w' = w := by
  subst hk
  exact (turned_is x n hx hn2 w).mono fun _ _ ⟨a, b⟩ => ⟨a, b.symm⟩
theorem down_l (x n y : Nat) (k : Int) (hk : k = n) (hx : x < 4294967296) (hn2 : n < 32) (hy : x / 2 ^ n = y) (w : World) :
    Calls Tryd.prog 22 #[.int .u32 (x : Int), .int .i64 k] w fun e w' => e = .returned (.int .u32 (y : Int)) ∧ w' = w := by
  subst hk hy
  exact (down_is x n hx hn2 w).mono fun _ _ ⟨a, b⟩ => ⟨a, b.symm⟩
theorem word_ref (a b c d : Nat) (ha : a < 256) (hb : b < 256) (hc : c < 256) (hd : d < 256) :
    (16777216 * ((a : Int) % 4294967296) + 65536 * ((b : Int) % 4294967296) + 256 * ((c : Int) % 4294967296) + (d : Int)) % 4294967296 = ((a * 16777216 + b * 65536 + c * 256 + d : Nat) : Int) := by omega
theorem sig0_ref (x : Nat) (hx : x < 4294967296) : Go.bits .xor .u32 (Go.bits .xor .u32 (ror x 7 : Nat) (ror x 18 : Nat)) ((x / 2 ^ 3 : Nat) : Int) = (sig0 x : Nat) := by
  rw [xor3 _ _ _ (ror_lt x 7 hx (by decide)) (ror_lt x 18 hx (by decide)) (Nat.lt_of_le_of_lt (Nat.div_le_self _ _) hx)]
  rfl
theorem sig1_ref (x : Nat) (hx : x < 4294967296) : Go.bits .xor .u32 (Go.bits .xor .u32 (ror x 17 : Nat) (ror x 19 : Nat)) ((x / 2 ^ 10 : Nat) : Int) = (sig1 x : Nat) := by
  rw [xor3 _ _ _ (ror_lt x 17 hx (by decide)) (ror_lt x 19 hx (by decide)) (Nat.lt_of_le_of_lt (Nat.div_le_self _ _) hx)]
  rfl
/-- What stands in a chunk: the sum so far, the words. -/
structure ChSt (w wr : World) (V : H8) (wl : List Nat) (ph pw : Nat) : Prop where
  fr : Fr (fun _ => False) w wr
  bh : wr.heap[ph]? = some (.cells (u32s V.list) 41 (0, 0))
  bw : wr.heap[pw]? = some (.cells (u32s wl) 46 (0, 0))
  ne : ph ≠ pw
  base : w.heap.size ≤ pw
theorem ChSt.drew {w wr : World} {V : H8} {wl : List Nat} {ph pw : Nat} (h : ChSt w wr V wl ph pw) : ChSt w wr.drew V wl ph pw := ⟨h.fr.drew, h.bh, h.bw, h.ne, h.base⟩
theorem ChSt.drewN {w wr : World} {V : H8} {wl : List Nat} {ph pw : Nat} (h : ChSt w wr V wl ph pw) (n : Nat) : ChSt w (wr.drewN n) V wl ph pw := ⟨h.fr.drewN n, h.bh, h.bw, h.ne, h.base⟩
theorem ChSt.set {w wr : World} {V : H8} {wl : List Nat} {ph pw : Nat} (h : ChSt w wr V wl ph pw) (i x : Nat) : ChSt w (wr.setCell ⟨pw, i, none⟩ (.int .u32 (x : Int))) V (wl.set i x) ph pw := by
  have hf := (Fr.refl (fun k => k = pw) wr).setCell ⟨pw, i, none⟩ (.int .u32 (x : Int)) (.inl rfl)
  have hb := block_setCell h.bw (.int .u32 (x : Int)) (off := i)
  rw [u32s_set] at hb
  exact ⟨h.fr.trans hf (fun k hk => .inr (by have := h.base; omega)), hf.keep h.bh h.ne, hb, h.ne, h.base⟩
theorem ChSt.cw {w wr : World} {V : H8} {wl : List Nat} {ph pw : Nat} (h : ChSt w wr V wl ph pw) (hl : wl.length = 64) (i : Nat) (hi : i < 64) (x : Nat) (hx : wl.getD i 0 = x) : wr.cell? ⟨pw, i, none⟩ = some (.int .u32 (x : Int)) := by
  rw [cell_of h.bw i, u32s_get wl i (by omega), hx]

set_option maxHeartbeats 0 in
set_option maxRecDepth 100000 in
theorem rsum_is (s : ByteArray) (hs : s.size ≤ 1000000) (v : Value) (w : World) (hK : KRow w v) :
    Calls Tryd.prog 9 #[.string s, v] w fun e w' => e = .returned (.string (sumS s)) ∧ Fr (fun _ => False) w w' := by
  obtain ⟨l, hl⟩ : ∃ l, s.data.toList = l := ⟨_, rfl⟩
  obtain ⟨n, hn⟩ : ∃ n, l.length = n := ⟨_, rfl⟩
  have hsl := of_list s l hl
  have hsz : s.size = n := by rw [hsl, mk_size, hn]
  obtain ⟨q, cap, rfl, hq⟩ := hK
  have Hq := Lib.hid hq
  have hnl : n ≤ 1000000 := by omega
  have Hsl := Lib.hid hsl
  have Hn := Lib.hid hn
  have hS : sumS s = ⟨(Sha.bytes (sumL l)).toArray⟩ := by unfold sumS; rw [hl]
  rw [hS]
  clear hq hl hsl hn hs hS
  go_enter Tryd.func9, Tryd.ntmps9
  go_upto_block 0 with fail
  show Code.wp _ _ _ _ (w.alloc (.cells (u32s (fA 0)) 41))
  have hst : ∃ W ph, w.alloc (.cells (u32s (fA 0)) 41) = W ∧ w.heap.size = ph ∧ W.heap[ph]? = some (.cells (u32s (fA 0)) 41 (0, 0)) ∧ Fr (fun _ => False) w W :=
    ⟨_, _, rfl, rfl, heap_alloc_new w _, (Fr.refl _ _).alloc _⟩
  obtain ⟨W, ph, hW, hph, hB, hF⟩ := hst
  rw [hW, hph]
  have HB := Lib.hid hB
  have HF := Lib.hid hF
  have HL : Hid (w.heap.size ≤ ph) := by show w.heap.size ≤ ph; omega
  clear hW hph hB hF
  go_cut [6] (fun _ wx => Hid (Fr (fun _ => False) w wx) ∧ Hid (wx.heap[ph]? = some (.cells (u32s first.list) 41 (0, 0))))
  case first =>
    go_wp2
    go_loopw [6] (fun v6 wr => ∃ i : Nat, i ≤ 8 ∧ v6 = .int .i64 (i : Int) ∧ Hid (Fr (fun _ => False) w wr) ∧ Hid (wr.heap[ph]? = some (.cells (u32s (fA i)) 41 (0, 0)))) (fun v6 _ => 8 - (intOf v6).toNat)
    case atStart => exact ⟨0, by omega, rfl, HF, HB⟩
    case round =>
      obtain ⟨i, hi, rfl, KF, KB⟩ := hrel
      clear HF HB
      by_cases hlt : i < 8
      · have hP := prime_is i (by omega)
        have hpb := (pr_bounds i (by omega)).2.1
        have hroot := fun W => root_is (pr i) 2 (by omega) (by decide) (by decide) W
        rw [root_two i hlt] at hroot
        have hset := fA_set i hlt
        have hfl := fA_length i hi
        obtain ⟨fi, hfi⟩ : ∃ fi, first.list.getD i 0 = fi := ⟨_, rfl⟩
        obtain ⟨P, hPP⟩ : ∃ P, pr i = P := ⟨_, rfl⟩
        rw [hfi] at hset hroot
        rw [hPP] at hP hroot
        replace hroot : ∀ W, Calls Tryd.prog 19 #[.int .u64 (P : Int), .int .i64 2] W fun e w' => e = .returned (.int .u32 (fi : Int)) ∧ Fr (fun _ => False) W w' := hroot
        have HP := Lib.hid hP
        have HR := Lib.hid hroot
        have Hset := Lib.hid hset
        have Hfl := Lib.hid hfl
        have hlI : (i : Int) < 8 := by omega
        have hi0 : (0 : Int) ≤ (i : Int) := by omega
        clear hP hpb hroot hset hfl hfi hPP
        go_wp2_with (first
          | (go_at_call 20; refine (HP.out _).mono ?_; rintro e w0 ⟨rfl, hw0⟩; rw [← hw0]; clear hw0)
          | (go_at_call 19; refine (HR.out _).mono ?_; rintro e w1 ⟨rfl, h1⟩; have HF1 := Lib.hid (KF.out.trans h1 (fun _ h => h.elim)); have HB1 := Lib.hid (h1.keep KB.out (fun h => h)); have c1 : w1.cell? ⟨ph, i, none⟩ = some (.int .u32 ((fA i).getD i 0 : Nat)) := (cell_of HB1.out i).trans (u32s_get _ _ (by rw [Hfl.out]; omega)); have f1 := free_of HB1.out i; clear h1))
        have hb := block_setCell HB1.out (.int .u32 (fi : Int)) (off := i)
        rw [u32s_set, Hset.out] at hb
        have IF := Lib.hid (HF1.out.setCell ⟨ph, i, none⟩ (.int .u32 (fi : Int)) (.inr HL.out))
        have IB := Lib.hid hb
        clear hb c1 f1
        go_roundw
        case rel => exact ⟨i + 1, by omega, by go_num, IF, IB⟩
        case measure => simp [intOf]; omega
      · obtain rfl : i = 8 := by omega
        clear hlt hi
        go_wp2
        go_meet
        exact ⟨KF, KB⟩
  case rest =>
    obtain ⟨KF, KB⟩ := hcut
    clear HF HB
    have hA1 : s.size + (⟨#[128]⟩ : ByteArray).size ≤ 1000000000 := by rw [hsz, show (⟨#[128]⟩ : ByteArray).size = 1 from rfl]; omega
    go_upto_block 2 with (refine wpList_strcat _ _ 9 rfl rfl s ⟨#[128]⟩ rfl rfl hA1 ?_)
    have hT0 : s ++ (⟨#[128]⟩ : ByteArray) = ⟨(l ++ [128] ++ List.replicate 0 0).toArray⟩ := by
      rw [Hsl.out, show (⟨#[128]⟩ : ByteArray) = ⟨([128] : List UInt8).toArray⟩ from rfl, mk_append]; simp
    have HT0 := Lib.hid hT0
    clear hT0 hA1
    generalize s ++ (⟨#[128]⟩ : ByteArray) = T0 at *
    go_cut [0] (fun v0 wx => ∃ T : ByteArray, v0 = .string T ∧ Hid (T = ⟨(l ++ [128] ++ List.replicate (zeros n) 0).toArray⟩) ∧ wx = wc)
    case first =>
      go_wp2
      go_loop [0] (fun v0 => ∃ (k : Nat) (T : ByteArray), k ≤ zeros n ∧ v0 = .string T ∧ Hid (T = ⟨(l ++ [128] ++ List.replicate k 0).toArray⟩)) (fun v0 => match v0 with | .string T => zeros n + n + 1 - T.size | _ => 0)
      case atStart => exact ⟨0, T0, Nat.zero_le _, rfl, HT0⟩
      case round =>
        obtain ⟨k, T, hk, rfl, hT⟩ := hrel
        have hTs : T.size = n + 1 + k := by rw [hT.out, mk_size]; simp [Hn.out]; omega
        have hz : zeros n = 64 * ((n + 72) / 64) - 9 - n := rfl
        by_cases hlt : k < zeros n
        · obtain ⟨m, hm⟩ : ∃ m, n + 1 + k = m := ⟨_, rfl⟩
          rw [hm] at hTs
          have ht : ((m : Int) % 64 == 56) = false := by simp; omega
          have hTn : T ++ (⟨#[0]⟩ : ByteArray) = ⟨(l ++ [128] ++ List.replicate (k + 1) 0).toArray⟩ := by
            rw [hT.out, show (⟨#[0]⟩ : ByteArray) = ⟨([0] : List UInt8).toArray⟩ from rfl, mk_append, List.replicate_succ', ← List.append_assoc]
          have hA1 : T.size + (⟨#[0]⟩ : ByteArray).size ≤ 1000000000 := by rw [hTs, show (⟨#[0]⟩ : ByteArray).size = 1 from rfl]; omega
          have Hm := Lib.hid hm
          have HTn := Lib.hid hTn
          have Hlt := Lib.hid hlt
          have Hz := Lib.hid hz
          have Hk := Lib.hid hk
          have hszn : (T ++ (⟨#[0]⟩ : ByteArray)).size = m + 1 := by rw [hTn, mk_size]; simp [Hn.out]; omega
          have Hszn := Lib.hid hszn
          clear hm hTn hlt hz hk hszn
          go_wp2_with (refine wpList_strcat _ _ 9 rfl rfl T ⟨#[0]⟩ rfl rfl hA1 ?_)
          go_round
          case rel => exact ⟨k + 1, _, Hlt.out, rfl, HTn⟩
          case measure =>
            show zeros n + n + 1 - (T ++ (⟨#[0]⟩ : ByteArray)).size < zeros n + n + 1 - T.size
            rw [Hszn.out, hTs]
            have := Hm.out
            have := Hlt.out
            omega
        · obtain rfl : k = zeros n := by omega
          obtain ⟨m, hm⟩ : ∃ m, n + 1 + zeros n = m := ⟨_, rfl⟩
          rw [hm] at hTs
          have ht : ((m : Int) % 64 == 56) = true := by simp; omega
          clear hm hlt hz hk
          go_wp2
          go_meet
          exact ⟨_, rfl, hT, rfl⟩
    case rest =>
      obtain ⟨T, rfl, HT, rfl⟩ := hcut
      clear HT0
      go_upto_block 4 with fail
      go_cut [7, 8, 9] (fun _ v8 _ wx => ∃ E : ByteArray, v8 = .string E ∧ Hid (E = ⟨(tailR n 8).toArray⟩) ∧ Hid (Fr (fun _ => False) w wx) ∧ Hid (wx.heap[ph]? = some (.cells (u32s first.list) 41 (0, 0))))
      case first =>
        go_wp2
        go_loopw [7, 8, 9] (fun v7 v8 v9 wr => ∃ (i y : Nat) (E : ByteArray), i ≤ 8 ∧ y ≤ 8000000 ∧ v7 = .int .u64 (y : Int) ∧ Hid (y = n * 8 / 2 ^ (8 * i)) ∧ v8 = .string E ∧ Hid (E = ⟨(tailR n i).toArray⟩) ∧ v9 = .int .i64 (i : Int) ∧ Hid (Fr (fun _ => False) w wr) ∧ Hid (wr.heap[ph]? = some (.cells (u32s first.list) 41 (0, 0)))) (fun _ _ v9 _ => 8 - (intOf v9).toNat)
        case atStart => exact ⟨0, n * 8, _, by omega, by omega, by go_num, (Nat.div_one _).symm, rfl, rfl, rfl, KF, KB⟩
        case round =>
          obtain ⟨i, y, E, hi, hy8, rfl, hy, rfl, hE, rfl, JF, JB⟩ := hrel
          clear KF KB
          by_cases hlt : i < 8
          · have hEn : (⟨#[tailB n (7 - i)]⟩ : ByteArray) ++ E = ⟨(tailR n (i + 1)).toArray⟩ := by
              rw [hE.out, show (⟨#[tailB n (7 - i)]⟩ : ByteArray) = ⟨([tailB n (7 - i)] : List UInt8).toArray⟩ from rfl, mk_append, tailR_succ n i hlt]; rfl
            have hb : (y : Int) % 256 = ((tailB n (7 - i)).toNat : Int) := by
              have e : 7 - (7 - i) = i := by omega
              simp only [tailB, Nat.toUInt8, UInt8.toNat_ofNat', e]
              rw [← hy.out]
              norm_cast
            have hy2 : y / 256 = n * 8 / 2 ^ (8 * (i + 1)) := by
              rw [hy.out, Nat.div_div_eq_div_mul]
              congr 1
              rw [show 8 * (i + 1) = 8 * i + 8 by omega, Nat.pow_add]
            have hyI : (y : Int) / 256 = ((y / 256 : Nat) : Int) := by omega
            have hEs : E.size ≤ 8 := by rw [hE.out, mk_size]; simp [tailR, tailL]
            have hA2 : (⟨#[tailB n (7 - i)]⟩ : ByteArray).size + E.size ≤ 1000000000 := by rw [show (⟨#[tailB n (7 - i)]⟩ : ByteArray).size = 1 from rfl]; omega
            have hcv := conv_row1 wr (tailB n (7 - i)) ((y : Int) % 256) hb
            generalize tailB n (7 - i) = bt at *
            have Hcv := Lib.hid hcv
            have HEn := Lib.hid hEn
            have Hy2 := Lib.hid hy2
            have HyI := Lib.hid hyI
            have hlI : (i : Int) < 8 := by omega
            clear hcv hEn hy2 hyI hb hEs
            go_wp2_with (first
              | refine wpList_cv 33 9 _ rfl rfl _ _ rfl Hcv.out ?_
              | refine wpList_strcat _ _ 9 rfl rfl ⟨#[bt]⟩ E rfl rfl hA2 ?_)
            rw [HyI.out]
            go_roundw
            case rel => exact ⟨i + 1, y / 256, _, by omega, by omega, rfl, Hy2.out, rfl, HEn, by go_num, JF.out.alloc _, block_alloc JB.out⟩
            case measure => simp [intOf]; omega
          · obtain rfl : i = 8 := by omega
            clear hlt hi
            go_wp2
            go_meet
            exact ⟨_, rfl, hE, JF, JB⟩
      case rest =>
        obtain ⟨E, rfl, HE, IF, IB⟩ := hcut
        clear KF KB
        obtain ⟨L, hL⟩ : ∃ L, padL l = L := ⟨_, rfl⟩
        obtain ⟨N, hN⟩ : ∃ N, chunks n = N := ⟨_, rfl⟩
        have hLN : L.length = 64 * N := by rw [← hL, padL_length, Hn.out, hN]
        have hTE : T ++ E = ⟨L.toArray⟩ := by
          rw [HT.out, HE.out, mk_append, ← hL]
          unfold padL
          rw [Hn.out]
          rfl
        have hsum : sumL l = blks (byteL L) N := by unfold sumL; rw [hL, Hn.out, hN]
        have hTs : T.size ≤ 2000000 := by
          rw [HT.out, mk_size]
          simp only [List.length_append, List.length_cons, List.length_nil, List.length_replicate, Hn.out, zeros, chunks]
          omega
        have hEs : E.size ≤ 8 := by rw [HE.out, mk_size]; simp [tailR, tailL]
        have hA3 : T.size + E.size ≤ 1000000000 := by omega
        have hst := Left.start L N hLN
        rw [← hTE] at hst
        have H0 := Lib.hid hst
        have Hsum := Lib.hid hsum
        clear hL hN hLN hTE hsum hTs hEs hst HT HE
        go_upto_block 6 with (refine wpList_strcat _ _ 9 rfl rfl T E rfl rfl hA3 ?_)
        clear hA3
        generalize T ++ E = TE at *
        go_cut [0] (fun _ wx => Hid (Fr (fun _ => False) w wx) ∧ Hid (wx.heap[ph]? = some (.cells (u32s (blks (byteL L) N).list) 41 (0, 0))))
        case first =>
          go_wp2
          go_loopw [0] (fun v0 wr => ∃ (j : Nat) (T : ByteArray), v0 = .string T ∧ Hid (Left L N j T) ∧ Hid (Fr (fun _ => False) w wr) ∧ Hid (wr.heap[ph]? = some (.cells (u32s (blks (byteL L) j).list) 41 (0, 0)))) (fun v0 _ => match v0 with | .string T => T.size | _ => 0)
          case atStart => exact ⟨0, _, rfl, H0, IF, IB⟩
          case round =>
            obtain ⟨j, T2, rfl, hT, JF, JB⟩ := hrel
            clear IF IB H0
            have hts := hT.out.size
            by_cases hlt : j < N
            · have h64 : 64 ≤ T2.size := by omega
              have hTl := Lib.hid (hT.out.tail hlt)
              obtain ⟨V, hV⟩ : ∃ V, blks (byteL L) j = V := ⟨_, rfl⟩
              obtain ⟨f, hf⟩ : ∃ f : Nat → Nat, (fun i => byteL L (64 * j + i)) = f := ⟨_, rfl⟩
              have hfi : ∀ i (h : i < T2.size), (T2[i]).toNat = f i := fun i h => by rw [← hf]; exact hT.out.is i h
              have hfl : ∀ i, f i < 256 := fun i => by rw [← hf]; exact (L.getD (64 * j + i) 0).toNat_lt
              have hVo : H8.Ok V := by rw [← hV]; exact blks_ok _ _
              have hnx : blks (byteL L) (j + 1) = plus V (rnd (sched f 64) 64 V) := by rw [← hV, ← hf]; rfl
              rw [hV] at JB
              have Hfi := Lib.hid hfi
              have Hfl := Lib.hid hfl
              have HVo := Lib.hid hVo
              have Hnx := Lib.hid hnx
              have Hlt := Lib.hid hlt
              have hpos : 0 < (T2.size : Int) := by omega
              clear hV hf hfi hfl hVo hnx hts hlt
              go_upto_block 8 with fail
              (try rw [show decide (0 < T2.size) = true from decide_eq_true (by omega)])
              show Code.wp _ _ _ _ (wr.alloc (.cells (u32s (wArr f 0)) 46))
              have hC : ChSt w (wr.alloc (.cells (u32s (wArr f 0)) 46)) V (wArr f 0) ph wr.heap.size :=
                ⟨JF.out.alloc _, block_alloc JB.out, heap_alloc_new wr _, by have := lt_of_block JB.out; omega, JF.out.size⟩
              have hq0 : ∀ W, Fr (fun _ => False) w W → ∀ t, t < 64 → W.cell? ⟨q, t, none⟩ = some (.int .u32 (kk.getD t 0 : Nat)) := fun W hW t ht => hW.cell_ (Hq.out t ht) (fun x => x)
              have HQ := Lib.hid hq0
              have HC := Lib.hid hC
              clear hC hq0 JF JB
              generalize wr.alloc (.cells (u32s (wArr f 0)) 46) = Wc at *
              generalize wr.heap.size = pw at *
              go_cut [11, 12, 13] (fun _ _ _ wx => Hid (ChSt w wx V (wArr f 64) ph pw))
              case first => as_aux_lemma =>
                go_wp2
                go_loopw [11, 12, 13] (fun v11 _ _ wr => ∃ i : Nat, i ≤ 64 ∧ v11 = .int .i64 (i : Int) ∧ Hid (ChSt w wr V (wArr f i) ph pw)) (fun v11 _ _ _ => 64 - (intOf v11).toNat)
                case atStart => exact ⟨0, by omega, rfl, HC⟩
                case round =>
                  obtain ⟨i, hi, rfl, KC⟩ := hrel
                  clear HC
                  have hwl := wArr_length f i (by omega)
                  by_cases hlt : i < 64
                  · have hi0 : (0 : Int) ≤ (i : Int) := by omega
                    have hi64 : (i : Int) < 64 := by omega
                    have c0 := KC.out.cw hwl i hlt _ rfl
                    have f0 := free_of KC.out.bw i
                    by_cases h16 : i < 16
                    · have h16I : (i : Int) < 16 := by omega
                      have x0 : ∀ W, (Instr.index 9 (.string T2) (.int .i64 (4 * (i : Int)))).run Tryd.prog W = .ok (.int .u8 (f (4 * i) : Nat)) W := str_index T2 (4 * i) (by omega) _ (by omega) _ (by rw [Hfi.out])
                      have x1 : ∀ W, (Instr.index 9 (.string T2) (.int .i64 (4 * (i : Int) + 1))).run Tryd.prog W = .ok (.int .u8 (f (4 * i + 1) : Nat)) W := str_index T2 (4 * i + 1) (by omega) _ (by omega) _ (by rw [Hfi.out])
                      have x2 : ∀ W, (Instr.index 9 (.string T2) (.int .i64 (4 * (i : Int) + 2))).run Tryd.prog W = .ok (.int .u8 (f (4 * i + 2) : Nat)) W := str_index T2 (4 * i + 2) (by omega) _ (by omega) _ (by rw [Hfi.out])
                      have x3 : ∀ W, (Instr.index 9 (.string T2) (.int .i64 (4 * (i : Int) + 3))).run Tryd.prog W = .ok (.int .u8 (f (4 * i + 3) : Nat)) W := str_index T2 (4 * i + 3) (by omega) _ (by omega) _ (by rw [Hfi.out])
                      have Hw := Lib.hid (word_ref (f (4 * i)) (f (4 * i + 1)) (f (4 * i + 2)) (f (4 * i + 3)) (Hfl.out _) (Hfl.out _) (Hfl.out _) (Hfl.out _))
                      have hset := KC.out.set i (word f i)
                      rw [wArr_set f i hlt (word f i) (by rw [if_pos h16])] at hset
                      have HS := Lib.hid hset.drew
                      clear hset hwl
                      go_upto_region 24 with fail
                      go_region
                      rw [Hw.out]
                      clear x0 x1 x2 x3 c0 f0
                      go_wp2
                      go_roundw
                      case rel => exact ⟨i + 1, by omega, by go_num, HS⟩
                      case measure => simp [intOf]; omega
                    · obtain ⟨wl, hwle⟩ : ∃ wl, sched f i = wl := ⟨_, rfl⟩
                      have hll : ∀ j, wl.getD j 0 < 4294967296 := fun j => by rw [← hwle]; exact getD_lt (sched_lt f Hfl.out i) j
                      have hc : ∀ j, j < i → wr.cell? ⟨pw, j, none⟩ = some (.int .u32 (wl.getD j 0 : Nat)) := fun j hj => by
                        rw [KC.out.cw hwl j (by omega) _ rfl, wArr_get f i j hj, hwle]
                      obtain ⟨u, hu⟩ : ∃ u, wl.getD (i - 16) 0 = u := ⟨_, rfl⟩
                      obtain ⟨x, hx⟩ : ∃ x, wl.getD (i - 15) 0 = x := ⟨_, rfl⟩
                      obtain ⟨v, hv⟩ : ∃ v, wl.getD (i - 7) 0 = v := ⟨_, rfl⟩
                      obtain ⟨y, hy⟩ : ∃ y, wl.getD (i - 2) 0 = y := ⟨_, rfl⟩
                      have c16 : wr.cell? ⟨pw, i - 16, none⟩ = some (.int .u32 (u : Int)) := by rw [hc _ (by omega), hu]
                      have c15 : wr.cell? ⟨pw, i - 15, none⟩ = some (.int .u32 (x : Int)) := by rw [hc _ (by omega), hx]
                      have c7 : wr.cell? ⟨pw, i - 7, none⟩ = some (.int .u32 (v : Int)) := by rw [hc _ (by omega), hv]
                      have c2 : wr.cell? ⟨pw, i - 2, none⟩ = some (.int .u32 (y : Int)) := by rw [hc _ (by omega), hy]
                      have hxl : x < 4294967296 := by rw [← hx]; exact hll _
                      have hyl : y < 4294967296 := by rw [← hy]; exact hll _
                      obtain ⟨X3, hX3⟩ : ∃ X3, x / 2 ^ 3 = X3 := ⟨_, rfl⟩
                      obtain ⟨Y10, hY10⟩ : ∃ Y10, y / 2 ^ 10 = Y10 := ⟨_, rfl⟩
                      have R7 := Lib.hid (turned_l x 7 7 rfl hxl (by decide))
                      have R18 := Lib.hid (turned_l x 18 18 rfl hxl (by decide))
                      have D3 := Lib.hid (down_l x 3 X3 3 rfl hxl (by decide) hX3)
                      have R17 := Lib.hid (turned_l y 17 17 rfl hyl (by decide))
                      have R19 := Lib.hid (turned_l y 19 19 rfl hyl (by decide))
                      have D10 := Lib.hid (down_l y 10 Y10 10 rfl hyl (by decide) hY10)
                      have z1 := sig0_ref x hxl
                      have z2 := sig1_ref y hyl
                      obtain ⟨S0, hS0⟩ : ∃ S0, sig0 x = S0 := ⟨_, rfl⟩
                      obtain ⟨S1, hS1⟩ : ∃ S1, sig1 y = S1 := ⟨_, rfl⟩
                      have hw := next_is wl i u x v y hu hx hv hy _ _ rfl rfl
                      rw [hS0] at z1 hw
                      rw [hS1] at z2 hw
                      have hset := KC.out.set i (nextW wl i)
                      rw [wArr_set f i hlt (nextW wl i) (by rw [if_neg h16, hwle])] at hset
                      have HS := Lib.hid hset.drew.drew
                      rw [hX3] at z1
                      rw [hY10] at z2
                      generalize nextW wl i = NW at *
                      have Hw := Lib.hid hw
                      have g16 : IntKind.i64.wrap ((i : Int) - 16) = ((i - 16 : Nat) : Int) := by rw [IntWalk.i64_in _ (by omega)]; omega
                      have g7 : IntKind.i64.wrap ((i : Int) - 7) = ((i - 7 : Nat) : Int) := by rw [IntWalk.i64_in _ (by omega)]; omega
                      have k16 : ((i - 16 : Nat) : Int) < 64 := by omega
                      have k7 : ((i - 7 : Nat) : Int) < 64 := by omega
                      have p16 : (0 : Int) ≤ ((i - 16 : Nat) : Int) := by omega
                      have p7 : (0 : Int) ≤ ((i - 7 : Nat) : Int) := by omega
                      have n16 : i - 16 ≠ i := by omega
                      have n7 : i - 7 ≠ i := by omega
                      have h16I : decide ((i : Int) < 16) = false := by simp; omega
                      have h16N : decide (i < 16) = false := by simp; omega
                      clear hw hu hx hv hy hc hll hwle hxl hyl hset hwl hS0 hS1 hX3 hY10
                      go_upto_region 25 with fail
                      go_region
                      go_wp2
                      go_region_held3 (fun w' => w'.cell? ⟨pw, i - 16, none⟩ = some (.int .u32 (u : Int)) ∧ w'.cell? ⟨pw, i - 7, none⟩ = some (.int .u32 (v : Int))) (first | exact ⟨set_other c16 n16, set_other c7 n7⟩ | go_keep) ((first
                        | (go_at_call 21; (first | (with_reducible show Calls _ _ #[_, Value.int .i64 7] _ _; refine (R7.out _).mono ?_) | (with_reducible show Calls _ _ #[_, Value.int .i64 18] _ _; refine (R18.out _).mono ?_) | (with_reducible show Calls _ _ #[_, Value.int .i64 17] _ _; refine (R17.out _).mono ?_) | (with_reducible show Calls _ _ #[_, Value.int .i64 19] _ _; refine (R19.out _).mono ?_)); rintro e w' ⟨rfl, rfl⟩)
                        | (go_at_call 22; (first | (with_reducible show Calls _ _ #[_, Value.int .i64 3] _ _; refine (D3.out _).mono ?_) | (with_reducible show Calls _ _ #[_, Value.int .i64 10] _ _; refine (D10.out _).mono ?_)); rintro e w' ⟨rfl, rfl⟩)))
                      first | rw [Hw.out] | trace_state
                      clear c16 c15 c7 c2 c0 f0 n16 n7 g16 g7
                      go_wp2
                      go_roundw
                      case rel => exact ⟨i + 1, by omega, by go_num, HS⟩
                      case measure => simp [intOf]; omega
                  · obtain rfl : i = 64 := by omega
                    clear hlt hi
                    go_wp2
                    go_meet
                    exact KC
              case rest =>
                have hWe : wArr f 64 = sched f 64 := by simp [wArr]
                have KC := hcut.out
                rw [hWe] at KC
                obtain ⟨WL, hWL⟩ : ∃ WL, sched f 64 = WL := ⟨_, rfl⟩
                have hWl : WL.length = 64 := by rw [← hWL]; exact sched_length f 64
                have hWb := getD_lt (sched_lt f Hfl.out 64)
                have hnx := Hnx.out
                rw [hWL] at KC hnx hWb
                have HKC := Lib.hid KC
                have HWl := Lib.hid hWl
                have Hnx2 := Lib.hid hnx
                clear hcut HC KC hWL hWl hnx Hnx hWe hWb
                have hbh := HKC.out.bh
                obtain ⟨a0, b0, cc0, d0, e0, ff0, g0, h0⟩ := V
                have c0 : wc.cell? ⟨ph, 0, none⟩ = some (.int .u32 (a0 : Int)) := (cell_of hbh 0).trans rfl
                have c1 : wc.cell? ⟨ph, 1, none⟩ = some (.int .u32 (b0 : Int)) := (cell_of hbh 1).trans rfl
                have c2 : wc.cell? ⟨ph, 2, none⟩ = some (.int .u32 (cc0 : Int)) := (cell_of hbh 2).trans rfl
                have c3 : wc.cell? ⟨ph, 3, none⟩ = some (.int .u32 (d0 : Int)) := (cell_of hbh 3).trans rfl
                have c4 : wc.cell? ⟨ph, 4, none⟩ = some (.int .u32 (e0 : Int)) := (cell_of hbh 4).trans rfl
                have c5 : wc.cell? ⟨ph, 5, none⟩ = some (.int .u32 (ff0 : Int)) := (cell_of hbh 5).trans rfl
                have c6 : wc.cell? ⟨ph, 6, none⟩ = some (.int .u32 (g0 : Int)) := (cell_of hbh 6).trans rfl
                have c7 : wc.cell? ⟨ph, 7, none⟩ = some (.int .u32 (h0 : Int)) := (cell_of hbh 7).trans rfl
                clear hbh
                go_upto_region 27 with fail
                go_quiet (fail)
                have HK2 := Lib.hid (HKC.out.drewN nq)
                clear c0 c1 c2 c3 c4 c5 c6 c7 HKC
                generalize wc.drewN nq = W5 at *
                obtain ⟨V, hV⟩ : ∃ V : H8, (⟨a0, b0, cc0, d0, e0, ff0, g0, h0⟩ : H8) = V := ⟨_, rfl⟩
                have hv1 : a0 = V.a := by rw [← hV]
                have hv2 : b0 = V.b := by rw [← hV]
                have hv3 : cc0 = V.c := by rw [← hV]
                have hv4 : d0 = V.d := by rw [← hV]
                have hv5 : e0 = V.e := by rw [← hV]
                have hv6 : ff0 = V.f := by rw [← hV]
                have hv7 : g0 = V.g := by rw [← hV]
                have hv8 : h0 = V.h := by rw [← hV]
                rw [hV] at HVo Hnx2 HK2
                clear hV
                subst hv1 hv2 hv3 hv4 hv5 hv6 hv7 hv8
                go_upto_block 10 with fail
                go_cut [14, 15, 16, 17, 18, 19, 20, 21, 22, 23, 24] (fun v14 v15 v16 v17 v18 v19 v20 v21 _ _ _ wx => ∃ R : H8, Hid (R = rnd WL 64 V) ∧ v14 = .int .u32 (R.a : Int) ∧ v15 = .int .u32 (R.b : Int) ∧ v16 = .int .u32 (R.c : Int) ∧ v17 = .int .u32 (R.d : Int) ∧
                  v18 = .int .u32 (R.e : Int) ∧ v19 = .int .u32 (R.f : Int) ∧ v20 = .int .u32 (R.g : Int) ∧ v21 = .int .u32 (R.h : Int) ∧ Hid (ChSt w wx V WL ph pw))
                case first => as_aux_lemma =>
                  go_wp2
                  go_loopw [14, 15, 16, 17, 18, 19, 20, 21, 22, 23, 24] (fun v14 v15 v16 v17 v18 v19 v20 v21 v22 _ _ wr => ∃ (t a b c d e ff g hh : Nat), t ≤ 64 ∧ v22 = .int .i64 (t : Int) ∧ Hid ((⟨a, b, c, d, e, ff, g, hh⟩ : H8) = rnd WL t V) ∧ v14 = .int .u32 (a : Int) ∧ v15 = .int .u32 (b : Int) ∧ v16 = .int .u32 (c : Int) ∧ v17 = .int .u32 (d : Int) ∧
                    v18 = .int .u32 (e : Int) ∧ v19 = .int .u32 (ff : Int) ∧ v20 = .int .u32 (g : Int) ∧ v21 = .int .u32 (hh : Int) ∧ Hid (ChSt w wr V WL ph pw)) (fun _ _ _ _ _ _ _ _ v22 _ _ _ => 64 - (intOf v22).toNat)
                  case atStart => exact ⟨0, _, _, _, _, _, _, _, _, by omega, rfl, rfl, rfl, rfl, rfl, rfl, rfl, rfl, rfl, rfl, HK2⟩
                  case round =>
                    obtain ⟨t, a, b, c, d, e, ff, g, hh, ht, rfl, hR, rfl, rfl, rfl, rfl, rfl, rfl, rfl, rfl, KM⟩ := hrel
                    clear HK2
                    by_cases hlt : t < 64
                    · have hltI : (t : Int) < 64 := by omega
                      have ht0 : (0 : Int) ≤ (t : Int) := by omega
                      have hRo : H8.Ok ⟨a, b, c, d, e, ff, g, hh⟩ := by rw [hR.out]; exact HVo.out.rnd WL t
                      obtain ⟨x, hx⟩ : ∃ x, WL.getD t 0 = x := ⟨_, rfl⟩
                      obtain ⟨y, hy⟩ : ∃ y, kk.getD t 0 = y := ⟨_, rfl⟩
                      have hR1 : rnd WL (t + 1) V = Sha.step ⟨a, b, c, d, e, ff, g, hh⟩ y x := by rw [hR.out, ← hx, ← hy]; rfl
                      have ck := HQ.out wr KM.out.fr t hlt
                      rw [hy] at ck
                      have cw := KM.out.cw HWl.out t hlt x hx
                      have R6 := Lib.hid (turned_l e 6 6 rfl hRo.e (by decide))
                      have R11 := Lib.hid (turned_l e 11 11 rfl hRo.e (by decide))
                      have R25 := Lib.hid (turned_l e 25 25 rfl hRo.e (by decide))
                      have R2 := Lib.hid (turned_l a 2 2 rfl hRo.a (by decide))
                      have R13 := Lib.hid (turned_l a 13 13 rfl hRo.a (by decide))
                      have R22 := Lib.hid (turned_l a 22 22 rfl hRo.a (by decide))
                      have z1 := big1_is e hRo.e
                      have hel := hRo.e
                      dsimp only at hel
                      have z0 : (4294967295 - (e : Int)) % 4294967296 = ((4294967295 - e : Nat) : Int) := by omega
                      have z2 := chs_is e ff g hRo.e hRo.f hRo.g ((4294967295 - (e : Int)) % 4294967296) z0
                      have z3 := big0_is a hRo.a
                      have z4 := maj_is a b c hRo.a hRo.b hRo.c
                      obtain ⟨B1, hB1⟩ : ∃ B1, big1 e = B1 := ⟨_, rfl⟩
                      obtain ⟨CH, hCH⟩ : ∃ CH, chs e ff g = CH := ⟨_, rfl⟩
                      obtain ⟨B0, hB0⟩ : ∃ B0, big0 a = B0 := ⟨_, rfl⟩
                      obtain ⟨MJ, hMJ⟩ : ∃ MJ, maj a b c = MJ := ⟨_, rfl⟩
                      obtain ⟨ON, hON⟩ : ∃ ON, one ⟨a, b, c, d, e, ff, g, hh⟩ y x = ON := ⟨_, rfl⟩
                      obtain ⟨TW, hTW⟩ : ∃ TW, two ⟨a, b, c, d, e, ff, g, hh⟩ = TW := ⟨_, rfl⟩
                      have z5 : (((hh : Int) + B1 + CH + y) % 4294967296 + x) % 4294967296 = (ON : Int) := by
                        rw [← hON]; unfold one; dsimp only; rw [hB1, hCH]; omega
                      have z6 : ((B0 : Int) + MJ) % 4294967296 = (TW : Int) := by
                        rw [← hTW]; unfold two; dsimp only; rw [hB0, hMJ]; omega
                      have z7 : Sha.step ⟨a, b, c, d, e, ff, g, hh⟩ y x = ⟨(ON + TW) % 4294967296, a, b, c, (d + ON) % 4294967296, e, ff, g⟩ := by
                        rw [← hON, ← hTW]; rfl
                      rw [hB1] at z1
                      rw [hCH] at z2
                      rw [hB0] at z3
                      rw [hMJ] at z4
                      rw [z7] at hR1
                      have z8 : ((d : Int) + ON) % 4294967296 = (((d + ON) % 4294967296 : Nat) : Int) := by omega
                      have z9 : ((ON : Int) + ((B0 : Int) + MJ)) % 4294967296 = (((ON + TW) % 4294967296 : Nat) : Int) := by omega
                      have z9b : ((ON : Int) + ((B0 : Int) + MJ) % 4294967296) % 4294967296 = (((ON + TW) % 4294967296 : Nat) : Int) := by omega
                      obtain ⟨NA, hNA⟩ : ∃ NA, (ON + TW) % 4294967296 = NA := ⟨_, rfl⟩
                      obtain ⟨ND, hND⟩ : ∃ ND, (d + ON) % 4294967296 = ND := ⟨_, rfl⟩
                      rw [hND] at z8 hR1
                      rw [hNA] at z9 z9b hR1
                      have HR1 := Lib.hid hR1
                      have Z5 := Lib.hid z5
                      have Z8 := Lib.hid z8
                      have Z9 := Lib.hid z9
                      have Z9b := Lib.hid z9b
                      clear hR1 hRo hx hy hB1 hCH hB0 hMJ hON hTW hNA hND z7 hel hR ht hlt z0 z5 z6 z8 z9 z9b
                      go_upto_region 31 with fail
                      go_quiet ((first | (go_at_call 21; first | (with_reducible show Calls _ _ #[_, Value.int .i64 6] _ _; exact Calls.quiet_of_same (R6.out _)) | (with_reducible show Calls _ _ #[_, Value.int .i64 11] _ _; exact Calls.quiet_of_same (R11.out _)) | (with_reducible show Calls _ _ #[_, Value.int .i64 25] _ _; exact Calls.quiet_of_same (R25.out _)))))
                      rw [Z5.out]
                      have KM2 := Lib.hid (KM.out.drewN nq)
                      clear ck cw KM
                      generalize wr.drewN nq = W6 at *
                      go_wp2_with (go_at_call 21; (first | (with_reducible show Calls _ _ #[_, Value.int .i64 2] _ _; refine (R2.out _).mono ?_) | (with_reducible show Calls _ _ #[_, Value.int .i64 13] _ _; refine (R13.out _).mono ?_) | (with_reducible show Calls _ _ #[_, Value.int .i64 22] _ _; refine (R22.out _).mono ?_)); rintro e w' ⟨rfl, rfl⟩)
                      go_roundw
                      case rel => exact ⟨t + 1, _, _, _, _, _, _, _, _, by omega, by go_num, HR1.out.symm, by first | exact congrArg _ Z9.out | exact congrArg _ Z9b.out, rfl, rfl, rfl, congrArg _ Z8.out, rfl, rfl, rfl, KM2⟩
                      case measure => simp [intOf]; omega
                    · obtain rfl : t = 64 := by omega
                      clear ht hlt
                      go_wp2
                      go_meet
                      exact ⟨_, hR, rfl, rfl, rfl, rfl, rfl, rfl, rfl, rfl, KM⟩
                case rest =>
                  obtain ⟨R, hR, rfl, rfl, rfl, rfl, rfl, rfl, rfl, rfl, KM⟩ := hcut
                  clear HK2 HQ HVo Hfl Hfi
                  rw [← hR.out] at Hnx2
                  obtain ⟨VL, hVL⟩ : ∃ VL, V.list = VL := ⟨_, rfl⟩
                  obtain ⟨RL, hRL⟩ : ∃ RL, R.list = RL := ⟨_, rfl⟩
                  obtain ⟨PL, hPL⟩ : ∃ PL, (plus V R).list = PL := ⟨_, rfl⟩
                  have l1 : VL.length = 8 := by rw [← hVL]; rfl
                  have l2 : RL.length = 8 := by rw [← hRL]; rfl
                  have l3 : PL.length = 8 := by rw [← hPL]; rfl
                  have hsum : ∀ i, i < 8 → PL.getD i 0 = (VL.getD i 0 + RL.getD i 0) % 4294967296 := fun i hi => by
                    rw [← hPL, ← hVL, ← hRL]
                    match i, hi with
                    | 0, _ => rfl
                    | 1, _ => rfl
                    | 2, _ => rfl
                    | 3, _ => rfl
                    | 4, _ => rfl
                    | 5, _ => rfl
                    | 6, _ => rfl
                    | 7, _ => rfl
                  have hRa : u32s RL = #[.int .u32 (R.a : Int), .int .u32 (R.b : Int), .int .u32 (R.c : Int), .int .u32 (R.d : Int), .int .u32 (R.e : Int), .int .u32 (R.f : Int), .int .u32 (R.g : Int), .int .u32 (R.h : Int)] := by rw [← hRL]; rfl
                  have hP : Hid ((blks (byteL L) (j + 1)).list = PL) := by rw [Hnx2.out]; exact hPL
                  have hk := KM.out
                  have hbh := hk.bh
                  rw [hVL] at hbh
                  obtain ⟨pl, hpl⟩ : ∃ pl, wc.heap.size = pl := ⟨_, rfl⟩
                  have hne : ph ≠ pl := by have := lt_of_block hk.bh; omega
                  have B5 := Lib.hid (heap_alloc_new wc (.cells (u32s RL) 41))
                  have B2 := Lib.hid (block_alloc (x := .cells (u32s RL) 41) hbh)
                  have F0 := Lib.hid (hk.fr.alloc (.cells (u32s RL) 41))
                  rw [hpl] at B5
                  rw [hRa] at B5 B2 F0
                  have HRa := Lib.hid hRa
                  have Hpl := Lib.hid hpl
                  have HS := Lib.hid hsum
                  have L1 := Lib.hid l1
                  have L2 := Lib.hid l2
                  have L3 := Lib.hid l3
                  clear hk hbh hsum hPL hRL hVL hR hRa Hnx2 l1 l2 l3 hpl KM
                  go_upto_block 12 with fail
                  rw [Hpl.out]
                  generalize wc.alloc (.cells #[.int .u32 (R.a : Int), .int .u32 (R.b : Int), .int .u32 (R.c : Int), .int .u32 (R.d : Int), .int .u32 (R.e : Int), .int .u32 (R.f : Int), .int .u32 (R.g : Int), .int .u32 (R.h : Int)] 41) = W7 at *
                  rw [← HRa.out] at B5
                  go_wp2
                  go_loopw [26] (fun v26 wr => ∃ i : Nat, i ≤ 8 ∧ v26 = .int .i64 (i : Int) ∧ Hid (Fr (fun _ => False) w wr) ∧ Hid (wr.heap[ph]? = some (.cells (u32s (PL.take i ++ VL.drop i)) 41 (0, 0))) ∧
                    Hid (wr.heap[pl]? = some (.cells (u32s RL) 41 (0, 0)))) (fun v26 _ => 8 - (intOf v26).toNat)
                  case atStart => exact ⟨0, by omega, rfl, F0, by simpa using B2, B5⟩
                  case round =>
                    obtain ⟨i, hi, rfl, KF, K2, K5⟩ := hrel
                    clear B2 B5 F0
                    by_cases hli : i < 8
                    · have hx : (PL.take i ++ VL.drop i).getD i 0 = VL.getD i 0 := by
                        have := L3.out
                        simp [List.getD, List.getElem?_append_right, Nat.min_eq_left (show i ≤ PL.length by omega)]
                      have hs := HS.out i hli
                      have hll : (PL.take i ++ VL.drop i).length = 8 := by have := L1.out; have := L3.out; simp; omega
                      have c2 : wr.cell? ⟨ph, i, none⟩ = some (.int .u32 (VL.getD i 0 : Nat)) := (cell_of K2.out i).trans ((u32s_get _ _ (by omega)).trans (by rw [hx]))
                      have c5 : wr.cell? ⟨pl, i, none⟩ = some (.int .u32 (RL.getD i 0 : Nat)) := (cell_of K5.out i).trans (u32s_get _ _ (by have := L2.out; omega))
                      have f2 := free_of K2.out i
                      have hset : (PL.take i ++ VL.drop i).set i (PL.getD i 0) = PL.take (i + 1) ++ VL.drop (i + 1) := by
                        have l1 := L1.out
                        have l3 := L3.out
                        rw [List.set_append_right _ _ (by simp; omega)]
                        have e1 : i - (PL.take i).length = 0 := by simp; omega
                        rw [e1, List.drop_eq_getElem_cons (show i < VL.length by omega), List.set_cons_zero]
                        have e2 : PL.take (i + 1) = PL.take i ++ [PL.getD i 0] := by
                          rw [List.take_add_one]
                          simp [List.getD, show i < PL.length by omega]
                        rw [e2, List.append_assoc]
                        rfl
                      have hb := block_setCell K2.out (.int .u32 ((PL.getD i 0 : Nat) : Int)) (off := i)
                      rw [u32s_set, hset] at hb
                      obtain ⟨vx, hvx⟩ : ∃ vx, VL.getD i 0 = vx := ⟨_, rfl⟩
                      obtain ⟨rx, hrx⟩ : ∃ rx, RL.getD i 0 = rx := ⟨_, rfl⟩
                      obtain ⟨px, hpx⟩ : ∃ px, PL.getD i 0 = px := ⟨_, rfl⟩
                      rw [hvx] at c2
                      rw [hrx] at c5
                      rw [hpx] at hb
                      rw [hvx, hrx, hpx] at hs
                      have hs2 : ((vx : Int) + (rx : Int)) % 4294967296 = (px : Int) := by omega
                      have hfr := (Fr.refl (fun k => k = ph) wr).setCell ⟨ph, i, none⟩ (.int .u32 (px : Int)) (.inl rfl)
                      have MF := Lib.hid (KF.out.trans hfr (fun k hk => .inr (by have := HL.out; omega)))
                      have M2 := Lib.hid hb
                      have M5 := Lib.hid (hfr.keep K5.out (fun e => hne e.symm))
                      have hlI : (i : Int) < 8 := by omega
                      have hi0 : (0 : Int) ≤ (i : Int) := by omega
                      have Hs := Lib.hid hs2
                      clear hx hs hll hset hb hvx hrx hpx hs2 hfr
                      go_upto_region 38 with fail
                      go_region
                      rw [Hs.out]
                      go_wp2
                      go_roundw
                      case rel => exact ⟨i + 1, by omega, by go_num, MF.out.drew, M2, M5⟩
                      case measure => simp [intOf]; omega
                    · obtain rfl : i = 8 := by omega
                      have hb2 := K2.out
                      rw [show PL.take 8 ++ VL.drop 8 = PL by rw [List.take_of_length_le (by rw [L3.out]; decide), List.drop_of_length_le (by rw [L1.out]; decide), List.append_nil]] at hb2
                      rw [← hP.out] at hb2
                      have HB2 := Lib.hid hb2
                      have h640 : (64 : Int) ≤ T2.size := by omega
                      clear hb2 hli hi
                      go_wp2
                      go_roundw
                      case rel => exact ⟨j + 1, _, rfl, hTl, KF, HB2⟩
                      case measure =>
                        show (T2.extract 64 T2.size).size < T2.size
                        rw [ByteArray.size_extract]
                        omega
            · have hjj : j = N := by have := hT.out.le; omega
              subst hjj
              have hz : T2.size = 0 := by have := hT.out.size; omega
              have hpos : ¬ (0 < (T2.size : Int)) := by omega
              clear hts hlt hz
              go_wp2
              go_meet
              exact ⟨JF, JB⟩
        case rest =>
          obtain ⟨KF2, KB2⟩ := hcut
          clear IF IB H0 Hq
          obtain ⟨R, hR⟩ : ∃ R, blks (byteL L) N = R := ⟨_, rfl⟩
          obtain ⟨l8, hl8⟩ : ∃ l8, R.list = l8 := ⟨_, rfl⟩
          have hl : l8.length = 8 := by rw [← hl8]; rfl
          have hRo : ∀ i, l8.getD i 0 < 4294967296 := by
            rw [← hl8, ← hR]
            have h := blks_ok (byteL L) N
            refine getD_lt ?_
            intro x hx
            simp only [H8.list, List.mem_cons, List.not_mem_nil, or_false] at hx
            rcases hx with rfl | rfl | rfl | rfl | rfl | rfl | rfl | rfl
            · exact h.a
            · exact h.b
            · exact h.c
            · exact h.d
            · exact h.e
            · exact h.f
            · exact h.g
            · exact h.h
          have hkb := KB2.out
          rw [hR, hl8] at hkb
          have hbytes : Sha.bytes (sumL l) = (l8.take 8).flatMap four := by
            rw [Hsum.out, hR, List.take_of_length_le (by rw [hl]; exact Nat.le_refl _)]; unfold Sha.bytes; rw [hl8]
          have HKB := Lib.hid hkb
          have HBy := Lib.hid hbytes
          have Hl := Lib.hid hl
          have HRo := Lib.hid hRo
          clear KB2 hR hl8 hl hRo hkb hbytes Hsum
          go_wp2
          go_loopw [27, 28] (fun v27 v28 wr => ∃ (i : Nat) (O : ByteArray), i ≤ 8 ∧ v27 = .string O ∧ v28 = .int .i64 (i : Int) ∧ Hid (O = ⟨((l8.take i).flatMap four).toArray⟩) ∧ Hid (Fr (fun _ => False) w wr) ∧ Hid (wr.heap[ph]? = some (.cells (u32s l8) 41 (0, 0)))) (fun _ v28 _ => 8 - (intOf v28).toNat)
          case atStart => exact ⟨0, _, by omega, rfl, rfl, rfl, KF2, HKB⟩
          case round =>
            obtain ⟨i, O, hi, rfl, rfl, hO, OF, OB⟩ := hrel
            clear KF2 HKB
            by_cases hlt : i < 8
            · obtain ⟨x, hx⟩ : ∃ x, l8.getD i 0 = x := ⟨_, rfl⟩
              have hxl : x < 4294967296 := by rw [← hx]; exact HRo.out i
              have c0 : wr.cell? ⟨ph, i, none⟩ = some (.int .u32 (x : Int)) := (cell_of OB.out i).trans ((u32s_get _ _ (by rw [Hl.out]; exact hlt)).trans (by rw [hx]))
              have hOs : O.size ≤ 32 := by
                rw [hO.out, mk_size]
                have e : ∀ m : List Nat, (m.flatMap four).length = 4 * m.length := fun m => by
                  induction m with
                  | nil => rfl
                  | cons a m ih => rw [List.flatMap_cons, List.length_append, ih]; simp [four]; omega
                rw [e, List.length_take]
                omega
              have hA : O.size + (⟨#[(x / 16777216).toUInt8, (x / 65536).toUInt8, (x / 256).toUInt8, x.toUInt8]⟩ : ByteArray).size ≤ 1000000000 := by
                rw [show (⟨#[(x / 16777216).toUInt8, (x / 65536).toUInt8, (x / 256).toUInt8, x.toUInt8]⟩ : ByteArray).size = 4 from rfl]; omega
              have hnext : O ++ (⟨#[(x / 16777216).toUInt8, (x / 65536).toUInt8, (x / 256).toUInt8, x.toUInt8]⟩ : ByteArray) = ⟨((l8.take (i + 1)).flatMap four).toArray⟩ := by
                have e : l8.take (i + 1) = l8.take i ++ [l8.getD i 0] := by
                  rw [List.take_add_one]
                  have := Hl.out
                  simp [List.getD, show i < l8.length by omega]
                rw [hO.out, show (⟨#[(x / 16777216).toUInt8, (x / 65536).toUInt8, (x / 256).toUInt8, x.toUInt8]⟩ : ByteArray) = ⟨(four x).toArray⟩ from rfl, mk_append, e, List.flatMap_append, hx]
                simp
              have b1 : (x : Int) / 16777216 = (((x / 16777216).toUInt8).toNat : Int) := by simp only [Nat.toUInt8, UInt8.toNat_ofNat']; omega
              have b2 : (x : Int) / 65536 % 256 = (((x / 65536).toUInt8).toNat : Int) := by simp only [Nat.toUInt8, UInt8.toNat_ofNat']; omega
              have b3 : (x : Int) / 256 % 256 = (((x / 256).toUInt8).toNat : Int) := by simp only [Nat.toUInt8, UInt8.toNat_ofNat']; omega
              have b4 : (x : Int) % 256 = ((x.toUInt8).toNat : Int) := by simp only [Nat.toUInt8, UInt8.toNat_ofNat']; omega
              have hcv := conv_row4d wr _ _ _ _ _ _ _ _ b1 b2 b3 b4
              generalize (x / 16777216).toUInt8 = u1 at *
              generalize (x / 65536).toUInt8 = u2 at *
              generalize (x / 256).toUInt8 = u3 at *
              generalize x.toUInt8 = u4 at *
              have Hnext := Lib.hid hnext
              have Hcv := Lib.hid hcv
              have HA := Lib.hid hA
              have hlI : (i : Int) < 8 := by omega
              have hi0 : (0 : Int) ≤ (i : Int) := by omega
              clear hnext hA b1 b2 b3 b4 hx Hcv
              go_upto_region 43 with fail
              go_region
              clear hcv
              go_wp2
              go_roundw
              case rel => exact ⟨i + 1, _, by omega, rfl, by go_num, Hnext, (OF.out.alloc _).drew, block_alloc OB.out⟩
              case measure => simp [intOf]; omega
            · obtain rfl : i = 8 := by omega
              have hOe : O = ⟨(Sha.bytes (sumL l)).toArray⟩ := by rw [hO.out, HBy.out]
              subst hOe
              clear hlt hi
              go_wp2
              go_ret
              exact ⟨rfl, OF.out⟩
end Go.Proofs.YtmcenocmilhekaaDoor
