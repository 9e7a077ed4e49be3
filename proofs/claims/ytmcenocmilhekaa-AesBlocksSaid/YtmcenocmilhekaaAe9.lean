/- Walks of layer 25 (aes): a key spread to the round keys. -/
import Derived.Test.YtmcenocmilhekaaAeC
namespace Go.Proofs.Ytmcenocmilhekaa
set_option linter.unusedVariables false
open Go.RowKit Go.My Go.Aes

/-- Four bytes of a block are written. -/
def set4 (w : World) (p y0 y1 y2 y3 : Nat) : World := (((w.setCell ⟨p, 0, none⟩ (.int .u8 (y0 : Int))).setCell ⟨p, 1, none⟩ (.int .u8 (y1 : Int))).setCell ⟨p, 2, none⟩ (.int .u8 (y2 : Int))).setCell ⟨p, 3, none⟩ (.int .u8 (y3 : Int))
theorem four_blk {wc : World} {p x0 x1 x2 x3 T : Nat} (h : wc.heap[p]? = some (.cells (u8s [x0, x1, x2, x3]) T (0, 0))) (y0 y1 y2 y3 : Nat) : (set4 wc p y0 y1 y2 y3).heap[p]? = some (.cells (u8s [y0, y1, y2, y3]) T (0, 0)) := by
  have h0 := block_setCell h (.int .u8 (y0 : Int)) (off := 0)
  rw [u8s_set] at h0
  have h1 := block_setCell h0 (.int .u8 (y1 : Int)) (off := 1)
  rw [u8s_set] at h1
  have h2 := block_setCell h1 (.int .u8 (y2 : Int)) (off := 2)
  rw [u8s_set] at h2
  have h3 := block_setCell h2 (.int .u8 (y3 : Int)) (off := 3)
  rw [u8s_set] at h3
  simpa [set4] using h3
theorem four_st {w wc : World} {c p x0 x1 x2 x3 T : Nat} {l : List Nat} (hf : Fr (fun k => k = c) w wc) (hc : Cip wc c l) (h : wc.heap[p]? = some (.cells (u8s [x0, x1, x2, x3]) T (0, 0))) (hp : w.heap.size ≤ p) (hpc : c ≠ p) (y0 y1 y2 y3 : Nat) :
    Fr (fun k => k = c) w (set4 wc p y0 y1 y2 y3) ∧ Cip (set4 wc p y0 y1 y2 y3) c l ∧ (set4 wc p y0 y1 y2 y3).heap[p]? = some (.cells (u8s [y0, y1, y2, y3]) T (0, 0)) := by
  have hq : Fr (fun k => k = p) wc (set4 wc p y0 y1 y2 y3) := by
    unfold set4
    exact ((((Fr.refl (fun k => k = p) wc).setCell _ _ (.inl rfl)).setCell _ _ (.inl rfl)).setCell _ _ (.inl rfl)).setCell _ _ (.inl rfl)
  exact ⟨hf.trans hq (fun k hk => .inr (by omega)), hc.keep hq hpc, four_blk h _ _ _ _⟩

set_option maxHeartbeats 4000000 in
set_option maxRecDepth 100000 in
theorem spread_is (key : ByteArray) (hk : key.size = 32) (c : Nat) (w : World) (hC : Cip w c []) :
    Calls Try.prog 16 #[.pointer (some ⟨c, 0, none⟩), .string key] w fun e w' => ∃ v, e = .returned v ∧ Fr (fun k => k = c) w w' ∧ Cip w' c (keyN (keyB key) 52) := by
  have HC := Lib.hid hC
  have Hk := Lib.hid hk
  have Hcl := Lib.hid hC.lt
  clear hC
  go_enter Try.func16, Try.ntmps16
  go_upto_block 0 with fail
  go_cut [4, 10] (fun _ _ wx => Hid (Fr (fun k => k = c) w wx) ∧ Hid (Cip wx c (keyB key)))
  case first =>
    go_wp2
    go_loopw [4, 10] (fun _ v10 wr => ∃ i : Nat, i ≤ 32 ∧ v10 = .int .i64 (i : Int) ∧ Hid (Fr (fun k => k = c) w wr) ∧ Hid (Cip wr c ((keyB key).take i))) (fun _ v10 _ => 32 - (intOf v10).toNat)
    case atStart => exact ⟨0, by omega, rfl, Fr.refl _ _, HC⟩
    case round =>
      obtain ⟨i, hi, rfl, KF, KC⟩ := hrel
      clear HC
      by_cases hlt : i < 32
      · have hlI : (i : Int) < 32 := by omega
        have hi0 : (0 : Int) ≤ (i : Int) := by omega
        have hkI : (i : Int) < (key.size : Int) := by omega
        have ha := fun W => at_same c i (by omega) W
        have Ha := Lib.hid ha
        obtain ⟨x0, hx0⟩ := KC.out.there i (by omega)
        have f0 := KC.out.free (256 + i)
        have hxi : i < key.size := by omega
        obtain ⟨b, hb⟩ : ∃ b : Nat, (key[i]'hxi).toNat = b := ⟨_, rfl⟩
        have hadd := KC.out.add (by simp [keyB_length]; omega) i (by simp [keyB_length]; omega) b
        rw [keyB_take key i hxi b hb] at hadd
        have hfr := KF.out.setCell ⟨c, 256 + i, none⟩ (.int .u8 (b : Int)) (.inl rfl)
        have MC := Lib.hid hadd
        have MF := Lib.hid hfr
        have Hb := Lib.hid hb
        clear ha hadd hfr hb
        go_upto_region 3 with fail
        go_region_held3 (fun w' => w'.frozen? ⟨c, 256 + i, none⟩ = false) (go_keep) ((go_at_call 23; refine (Ha.out _).mono ?_; rintro e w' ⟨rfl, rfl⟩))
        all_goals
          rw [Hb.out]
          go_wp2
          go_roundw
          case rel => exact ⟨i + 1, by omega, by go_num, MF.out.drew, MC.out.keep ((Fr.refl (fun _ => False) _).drew) (fun x => x)⟩
          case measure => simp [intOf]; omega
      · obtain rfl : i = 32 := by omega
        have e : (keyB key).take 32 = keyB key := List.take_of_length_le (by rw [keyB_length, Hk.out]; exact Nat.le_refl _)
        rw [e] at KC
        clear hlt hi e
        go_wp2
        go_meet
        exact ⟨KF, KC⟩
  case rest =>
    obtain ⟨KF, KC⟩ := hcut
    clear HC
    have HKl : Hid ((keyB key).length = 32) := by show _ = _; rw [keyB_length, Hk.out]
    have HKb : Hid (∀ i, (keyB key).getD i 0 < 256) := keyB_lt key
    obtain ⟨K, hK⟩ : ∃ K, keyB key = K := ⟨_, rfl⟩
    rw [hK] at HKl HKb KC
    have HK := Lib.hid hK
    clear hK
    go_wp2
    go_loopw [5, 6, 7, 8, 9] (fun v5 v6 _ _ _ wr => ∃ k n : Nat, Hid (n = k + 8) ∧ k ≤ 52 ∧ v5 = .int .u8 (tuN k : Nat) ∧ v6 = .int .i64 (n : Int) ∧ Hid (Fr (fun k => k = c) w wr) ∧ Hid (Cip wr c (keyN K k))) (fun _ v6 _ _ _ _ => 60 - (intOf v6).toNat)
    case atStart => exact ⟨0, 8, rfl, by omega, rfl, rfl, KF, KC⟩
    case round =>
      obtain ⟨k, n, hn, hk, rfl, rfl, JF, JC⟩ := hrel
      clear KF KC
      by_cases hlt : k < 52
      · have hkI : (n : Int) < 60 := by have := hn.out; omega
        have hnI : (8 : Int) ≤ (n : Int) := by have := hn.out; omega
        obtain ⟨l, hl⟩ : ∃ l, keyN K k = l := ⟨_, rfl⟩
        have hll : l.length = 32 + 4 * k := by rw [← hl]; exact keyN_length K HKl.out k
        have hlb : ∀ i, l.getD i 0 < 256 := by rw [← hl]; exact keyN_lt K HKb.out k (by omega)
        have hnext : keyN K (k + 1) = wordN l (twL (preL l k) k) k 4 := by rw [← hl]; rfl
        rw [hl] at JC
        have Hll := Lib.hid hll
        have Hlb := Lib.hid hlb
        have Hnext := Lib.hid hnext
        clear hl hll hlb hnext
        go_upto_block 4 with fail
        show Code.wp _ _ _ _ (wr.alloc (.cells (u8s (preN l k 0)) 49))
        have hb := heap_alloc_new wr (.cells (u8s (preN l k 0)) 49)
        have hf : Fr (fun k => k = c) w (wr.alloc (.cells (u8s (preN l k 0)) 49)) := JF.out.alloc _
        have hc : Cip (wr.alloc (.cells (u8s (preN l k 0)) 49)) c l := JC.out.keep ((Fr.refl (fun _ => False) wr).alloc _) (fun x => x)
        have hpl : w.heap.size ≤ wr.heap.size := JF.out.size
        have hpc : c ≠ wr.heap.size := by have := JC.out.lt; omega
        generalize wr.heap.size = p at *
        generalize wr.alloc (.cells (u8s (preN l k 0)) 49) = W at *
        have B0 := Lib.hid hb
        have F0 := Lib.hid hf
        have C0 := Lib.hid hc
        have Hpl := Lib.hid hpl
        clear hb hf hc hpl JF JC
        go_cut [8, 25] (fun _ _ wx => Hid (Fr (fun k => k = c) w wx) ∧ Hid (Cip wx c l) ∧ Hid (wx.heap[p]? = some (.cells (u8s (preL l k)) 49 (0, 0))))
        case first =>
          go_wp2
          go_loopw [8, 25] (fun _ v25 wr => ∃ j : Nat, j ≤ 4 ∧ v25 = .int .i64 (j : Int) ∧ Hid (Fr (fun k => k = c) w wr) ∧ Hid (Cip wr c l) ∧ Hid (wr.heap[p]? = some (.cells (u8s (preN l k j)) 49 (0, 0)))) (fun _ v25 _ => 4 - (intOf v25).toNat)
          case atStart => exact ⟨0, by omega, rfl, F0, C0, B0⟩
          case round =>
            obtain ⟨j, hj, rfl, KF, KC, KB⟩ := hrel
            clear F0 C0 B0
            by_cases hlj : j < 4
            · have hljI : (j : Int) < 4 := by omega
              have hj0 : (0 : Int) ≤ (j : Int) := by omega
              obtain ⟨q, hq⟩ : ∃ q, 4 * k + 28 + j = q := ⟨_, rfl⟩
              have hqI : 4 * ((n : Int) - 1) + (j : Int) = (q : Int) := by have := hn.out; omega
              obtain ⟨x, hx⟩ : ∃ x, l.getD q 0 = x := ⟨_, rfl⟩
              have ck := KC.out.cell q (by have := Hll.out; omega) x hx
              have cp : wr.cell? ⟨p, j, none⟩ = some (.int .u8 ((preN l k j).getD j 0 : Nat)) := (cell_of KB.out j).trans (u8s_get _ _ (by rw [preN_length]; exact hlj))
              have fp := free_of KB.out j
              have hset := preN_set l k j hlj
              rw [hq, hx] at hset
              have hbn := block_setCell KB.out (.int .u8 (x : Int)) (off := j)
              rw [u8s_set, hset] at hbn
              have hfr := (Fr.refl (fun k => k = p) wr).setCell ⟨p, j, none⟩ (.int .u8 (x : Int)) (.inl rfl)
              have MF := Lib.hid (KF.out.trans hfr (fun k hk => .inr (by have := Hpl.out; omega)))
              have MC := Lib.hid (KC.out.keep hfr hpc)
              have MB := Lib.hid hbn
              have Ha := Lib.hid (fun W => at_same c q (by omega) W)
              clear hset hq hx hbn hfr
              go_wp2_with (go_at_call 23; refine (Ha.out _).mono ?_; rintro e w' ⟨rfl, rfl⟩)
              go_roundw
              case rel => exact ⟨j + 1, by omega, by go_num, MF, MC, MB⟩
              case measure => simp [intOf]; omega
            · obtain rfl : j = 4 := by omega
              rw [preN_four] at KB
              clear hlj hj
              go_wp2
              go_meet
              exact ⟨KF, KC, KB⟩
        case rest =>
          obtain ⟨KF, KC, KB⟩ := hcut
          clear F0 C0 B0
          have hpb := getD4 (l.getD (4 * k + 28) 0) (l.getD (4 * k + 29) 0) (l.getD (4 * k + 30) 0) (l.getD (4 * k + 31) 0) (Hlb.out _) (Hlb.out _) (Hlb.out _) (Hlb.out _)
          have htl := twL_lt (preL l k) k hlt hpb
          obtain ⟨t, ht⟩ : ∃ t, twL (preL l k) k = t := ⟨_, rfl⟩
          rw [ht] at htl Hnext
          have Ht := Lib.hid ht
          have Htl := Lib.hid htl
          clear hpb htl ht
          have htu := tuN_next k hlt
          have htlt := tuN_lt k (by omega)
          obtain ⟨tn, htn⟩ : ∃ tn, tuN (k + 1) = tn := ⟨_, rfl⟩
          obtain ⟨tv, htv⟩ : ∃ tv, tuN k = tv := ⟨_, rfl⟩
          rw [htn, htv] at htu
          rw [htv] at htlt
          rw [htv]
          have Htn := Lib.hid htn
          have Htv := Lib.hid htv
          have HTU := Lib.hid htu
          clear htn htv htu
          go_upto_block 6 with fail
          go_cut [5, 41] (fun v5 _ wx => v5 = .int .u8 (tn : Int) ∧ Hid (Fr (fun k => k = c) w wx) ∧ Hid (Cip wx c l) ∧ Hid (wx.heap[p]? = some (.cells (u8s t) 49 (0, 0))))
          case first =>
            have hB := KC.out.boxes
            obtain ⟨x0, hx0⟩ : ∃ x0, l.getD (4 * k + 28) 0 = x0 := ⟨_, rfl⟩
            obtain ⟨x1, hx1⟩ : ∃ x1, l.getD (4 * k + 29) 0 = x1 := ⟨_, rfl⟩
            obtain ⟨x2, hx2⟩ : ∃ x2, l.getD (4 * k + 30) 0 = x2 := ⟨_, rfl⟩
            obtain ⟨x3, hx3⟩ : ∃ x3, l.getD (4 * k + 31) 0 = x3 := ⟨_, rfl⟩
            have hp : preL l k = [x0, x1, x2, x3] := by rw [preL, hx0, hx1, hx2, hx3]
            have l0 : x0 < 256 := by rw [← hx0]; exact Hlb.out _
            have l1 : x1 < 256 := by rw [← hx1]; exact Hlb.out _
            have l2 : x2 < 256 := by rw [← hx2]; exact Hlb.out _
            have l3 : x3 < 256 := by rw [← hx3]; exact Hlb.out _
            clear hx0 hx1 hx2 hx3
            have ht := Ht.out
            rw [hp] at ht KB
            have p0 : wc.cell? ⟨p, 0, none⟩ = some (.int .u8 (x0 : Int)) := cell_of KB.out 0
            have p1 : wc.cell? ⟨p, 1, none⟩ = some (.int .u8 (x1 : Int)) := cell_of KB.out 1
            have p2 : wc.cell? ⟨p, 2, none⟩ = some (.int .u8 (x2 : Int)) := cell_of KB.out 2
            have p3 : wc.cell? ⟨p, 3, none⟩ = some (.int .u8 (x3 : Int)) := cell_of KB.out 3
            have hyl1 := box_lt x1 l1
            have b0 := hB x0 l0
            have b1 := hB x1 l1
            have b2 := hB x2 l2
            have b3 := hB x3 l3
            obtain ⟨y0, hy0⟩ : ∃ y, box x0 = y := ⟨_, rfl⟩
            obtain ⟨y1, hy1⟩ : ∃ y, box x1 = y := ⟨_, rfl⟩
            obtain ⟨y2, hy2⟩ : ∃ y, box x2 = y := ⟨_, rfl⟩
            obtain ⟨y3, hy3⟩ : ∃ y, box x3 = y := ⟨_, rfl⟩
            rw [hy0] at b0
            rw [hy1] at b1 hyl1
            rw [hy2] at b2
            rw [hy3] at b3
            have fp := free_of KB.out
            have i0 : (x0 : Int) < 256 := by omega
            have i1 : (x1 : Int) < 256 := by omega
            have i2 : (x2 : Int) < 256 := by omega
            have i3 : (x3 : Int) < 256 := by omega
            have Hst := Lib.hid (fun y0 y1 y2 y3 : Nat => four_st (w := w) KF.out KC.out KB.out (by have := Hpl.out; omega) hpc y0 y1 y2 y3)
            have HN := hn.out
            have htu := HTU.out
            clear hB hp
            by_cases h8 : k % 8 = 0
            · have h8I : (n : Int) % 8 = 0 := by omega
              rw [if_pos h8] at htu
              obtain ⟨z, hz⟩ : ∃ z, y1 ^^^ tv = z := ⟨_, rfl⟩
              have htw : t = [z, y2, y3, y0] := by
                have e : t = [box x1 ^^^ tv, box x2, box x3, box x0] := by rw [← ht, twL, if_pos h8, Htv.out]; rfl
                rw [e, hy0, hy1, hy2, hy3, hz]
              have hzz := xorB y1 tv hyl1 htlt
              rw [hz] at hzz
              obtain ⟨g1, g2, g3⟩ := Hst.out z y2 y3 y0
              rw [← htw] at g3
              unfold set4 at g1 g2 g3
              have MF := Lib.hid g1
              have MC := Lib.hid g2
              have MB := Lib.hid g3
              have HZ := Lib.hid hzz
              have Hd := Lib.hid (fun W => double_is tv htlt W)
              have Htu := Lib.hid htu
              clear ht htw h8 hz hzz g1 g2 g3 Hst HN hy0 hy1 hy2 hy3 htu htlt hyl1
              go_upto_region 17 with fail
              go_region
              rw [HZ.out]
              go_wp2_with (go_at_call 24; refine (Hd.out _).mono ?_; rintro e w' ⟨rfl, rfl⟩)
              go_meet
              exact ⟨by rw [Htu.out], MF.out.drew, MC.out.keep ((Fr.refl (fun _ => False) _).drew) (fun x => x), MB⟩
            · rw [if_neg h8] at htu
              by_cases h4 : k % 8 = 4
              · have h8I : (n : Int) % 8 = 4 := by omega
                have htw : t = [y0, y1, y2, y3] := by
                  have e : t = [box x0, box x1, box x2, box x3] := by rw [← ht, twL, if_neg h8, if_pos h4]; rfl
                  rw [e, hy0, hy1, hy2, hy3]
                obtain ⟨g1, g2, g3⟩ := Hst.out y0 y1 y2 y3
                rw [← htw] at g3
                unfold set4 at g1 g2 g3
                have MF := Lib.hid g1
                have MC := Lib.hid g2
                have MB := Lib.hid g3
                have Htu := Lib.hid htu
                clear ht htw h8 g1 g2 g3 Hst HN hy0 hy1 hy2 hy3 htu htlt hyl1 h4
                go_upto_region 20 with fail
                go_region
                go_wp2
                go_meet
                exact ⟨by rw [Htu.out], MF.out.drew, MC.out.keep ((Fr.refl (fun _ => False) _).drew) (fun x => x), MB⟩
              · have htw : t = [x0, x1, x2, x3] := by rw [← ht, twL, if_neg h8, if_neg h4]
                have e0 : ((n : Int) % 8 == 0) = false := by
                  have : ¬ ((n : Int) % 8 = 0) := by omega
                  simp [this]
                have e4 : ((n : Int) % 8 == 4) = false := by
                  have : ¬ ((n : Int) % 8 = 4) := by omega
                  simp [this]
                rw [← htw] at KB
                have Htu := Lib.hid htu
                clear ht htw h8 Hst HN hy0 hy1 hy2 hy3 htu htlt hyl1 h4 b0 b1 b2 b3
                go_wp2
                go_meet
                exact ⟨by rw [Htu.out], KF, KC, KB⟩
          case rest =>
            obtain ⟨rfl, KF2, KC2, KB2⟩ := hcut
            clear KF KC KB
            have HN := hn
            have htl4 : t.length = 4 := by
              rw [← Ht.out, twL]
              split
              · rfl
              · split <;> rfl
            have Htl4 := Lib.hid htl4
            clear htl4
            go_wp2
            go_loopw [9, 108] (fun _ v108 wr => ∃ j : Nat, j ≤ 4 ∧ v108 = .int .i64 (j : Int) ∧ Hid (Fr (fun k => k = c) w wr) ∧ Hid (Cip wr c (wordN l t k j)) ∧ Hid (wr.heap[p]? = some (.cells (u8s t) 49 (0, 0)))) (fun _ v108 _ => 4 - (intOf v108).toNat)
            case atStart => exact ⟨0, by omega, rfl, KF2, KC2, KB2⟩
            case round =>
              obtain ⟨j, hj, rfl, LF, LC, LB⟩ := hrel
              clear KF2 KC2 KB2
              by_cases hlj : j < 4
              · have hljI : (j : Int) < 4 := by omega
                have hj0 : (0 : Int) ≤ (j : Int) := by omega
                obtain ⟨q1, hq1⟩ : ∃ q, 4 * k + 32 + j = q := ⟨_, rfl⟩
                obtain ⟨q2, hq2⟩ : ∃ q, 4 * k + j = q := ⟨_, rfl⟩
                have hq1I : 4 * (n : Int) + (j : Int) = (q1 : Int) := by have := hn.out; omega
                have hq2I : 4 * ((n : Int) - 8) + (j : Int) = (q2 : Int) := by have := hn.out; omega
                obtain ⟨x, hx⟩ : ∃ x, l.getD q2 0 = x := ⟨_, rfl⟩
                obtain ⟨y, hy⟩ : ∃ y, t.getD j 0 = y := ⟨_, rfl⟩
                have hxl : x < 256 := by rw [← hx]; exact Hlb.out _
                have hyl : y < 256 := by rw [← hy]; exact Htl.out _
                have hwl : (wordN l t k j).length = q1 := by rw [wordN_length, Hll.out]; omega
                have c2 := LC.out.cell q2 (by omega) x (by rw [wordN_get _ _ _ _ _ (by have := Hll.out; omega), hx])
                obtain ⟨x1, c1⟩ := LC.out.there q1 (by omega)
                have f1 := LC.out.free (256 + q1)
                have ct : wr.cell? ⟨p, j, none⟩ = some (.int .u8 (y : Int)) := (cell_of LB.out j).trans ((u8s_get _ _ (by rw [Htl4.out]; exact hlj)).trans (by rw [hy]))
                have hz := xorB x y hxl hyl
                have hadd := LC.out.add (by rw [hwl]; omega) q1 hwl (x ^^^ y)
                have hstep : wordN l t k (j + 1) = wordN l t k j ++ [x ^^^ y] := by rw [← hx, ← hy, ← hq2]; rfl
                rw [← hstep] at hadd
                have hfr := (Fr.refl (fun k => k = c) wr).setCell ⟨c, 256 + q1, none⟩ (.int .u8 ((x ^^^ y : Nat) : Int)) (.inl rfl)
                have MF := Lib.hid (LF.out.trans hfr (fun k hk => .inl hk))
                have MC := Lib.hid hadd
                have MB := Lib.hid (hfr.keep LB.out (fun e => hpc e.symm))
                have HZ := Lib.hid hz
                have hn12 : 256 + q2 ≠ 256 + q1 := by omega
                have hpc2 : p ≠ c := fun e => hpc e.symm
                have W1 : Hid (IntKind.i64.wrap (IntKind.i64.wrap (4 * (n : Int)) + (j : Int)) = (q1 : Int)) := by
                  show _ = _
                  rw [IntWalk.i64_in (4 * (n : Int)) (by omega), hq1I, IntWalk.i64_in _ (by omega)]
                have W2 : Hid (IntKind.i64.wrap (IntKind.i64.wrap (4 * IntKind.i64.wrap ((n : Int) - 8)) + (j : Int)) = (q2 : Int)) := by
                  show _ = _
                  rw [IntWalk.i64_in ((n : Int) - 8) (by omega), IntWalk.i64_in (4 * ((n : Int) - 8)) (by omega), hq2I, IntWalk.i64_in _ (by omega)]
                have ha1 := fun W => at_same c q1 (by omega) W
                have ha2 := fun W => at_same c q2 (by omega) W
                rw [← W1.out] at ha1
                rw [← W2.out] at ha2
                have e1 : 256 + q1 = 256 + q1 := rfl
                have Ha1 := Lib.hid ha1
                have Ha2 := Lib.hid ha2
                clear ha1 ha2 e1
                clear hz hadd hstep hfr hwl hx hy hq1 hq2 hxl hyl hq1I hq2I
                go_upto_region 24 with fail
                go_region_held3 (fun w' => w'.cell? ⟨p, j, none⟩ = some (.int .u8 (y : Int)) ∧ w'.cell? ⟨c, 256 + q2, none⟩ = some (.int .u8 (x : Int))) (first | exact ⟨Fr.cell_ ((Fr.refl (fun k => k = c) wr).setCell ⟨c, 256 + q1, none⟩ _ (.inl rfl)) ct hpc2, set_other c2 hn12⟩ | go_keep) ((go_at_call 23; first
                  | ((with_reducible show Calls _ _ #[_, Value.int .i64 (IntKind.i64.wrap (IntKind.i64.wrap (4 * (n : Int)) + (j : Int)))] _ _); refine (Ha1.out _).mono ?_; rintro e w' ⟨rfl, rfl⟩)
                  | ((with_reducible show Calls _ _ #[_, Value.int .i64 (IntKind.i64.wrap (IntKind.i64.wrap (4 * IntKind.i64.wrap ((n : Int) - 8)) + (j : Int)))] _ _); refine (Ha2.out _).mono ?_; rintro e w' ⟨rfl, rfl⟩)))
                all_goals
                  rw [HZ.out]
                  go_wp2
                  go_roundw
                  case rel => exact ⟨j + 1, by omega, by go_num, MF.out.drew, MC.out.keep ((Fr.refl (fun _ => False) _).drew) (fun x => x), MB⟩
                  case measure => simp [intOf]; omega
              · obtain rfl : j = 4 := by omega
                rw [← Hnext.out] at LC
                clear hlj hj
                go_wp2
                go_roundw
                case rel => exact ⟨k + 1, n + 1, by show _ = _; have := hn.out; omega, by omega, by rw [Htn.out], by go_num, LF, LC⟩
                case measure => simp [intOf]; omega
      · obtain rfl : k = 52 := by omega
        clear hlt hk
        obtain rfl : n = 60 := hn.out
        go_wp2
        go_end0
        exact ⟨⟨_, rfl⟩, JF.out, by rw [HK.out]; exact JC.out⟩
end Go.Proofs.Ytmcenocmilhekaa
