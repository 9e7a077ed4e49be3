/- Walks of layer 25's reference: the keys of the rounds. -/
import Derived.Test.YtmcenocmilhekaaAe3
import Derived.Test.YtmcenocmilhekaaAeC
import Derived.StillTailTactics
import Derived.Deep.RegionLaw
namespace Go.Proofs.Ytmcenocmilhekaa
set_option linter.unusedVariables false
open Go.RowKit Go.My Go.Aes

def intV (l : List Nat) : List Value := l.map fun x : Nat => Value.int .i64 (x : Int)
theorem intV_snoc (l : List Nat) (x : Nat) : intV (l ++ [x]) = intV l ++ [.int .i64 (x : Int)] := by simp [intV]
theorem own_int {w : World} {B n g cap N : Nat} {l : List Nat} (h : w.ownsRow B 3 1 (.slice (some ⟨g, 0, none⟩) N cap) n (intV l)) (i : Nat) (hi : i < l.length) (x : Nat) (hx : l.getD i 0 = x) : w.cell? ⟨g, i, none⟩ = some (.int .i64 (x : Int)) := by
  have hc := h.cells (g := g) rfl i (.int .i64 (x : Int)) (by
    simp only [intV, List.getElem?_map, List.getElem?_eq_getElem hi, Option.map_some]
    rw [← hx]
    simp [List.getD, hi])
  rwa [addr_at] at hc
/-- The bytes of the round keys, as a row of ints. -/
def KeyRow (w : World) (v : Value) (W : List Nat) : Prop := ∃ q cap, v = .slice (some ⟨q, 0, none⟩) 240 cap ∧ ∀ x, x < 240 → w.cell? ⟨q, x, none⟩ = some (.int .i64 (W.getD x 0 : Nat))
theorem KeyRow.keep {w w' : World} {v : Value} {W : List Nat} (h : KeyRow w v W) (hf : Fr (fun _ => False) w w') : KeyRow w' v W := by
  obtain ⟨q, cap, hv, hc⟩ := h
  exact ⟨q, cap, hv, fun t ht => hf.cell_ (hc t ht) (fun x => x)⟩
theorem KeyRow.of {w : World} {B : Nat} {v : Value} {W : List Nat} (hW : W.length = 240) (h : w.ownsRow B 3 1 v 240 (intV W)) : KeyRow w v W := by
  obtain ⟨g, cap, rfl⟩ := own_slice h (by decide)
  exact ⟨g, cap, rfl, fun t ht => own_int h t (by omega) _ rfl⟩

set_option maxHeartbeats 8000000 in
set_option maxRecDepth 100000 in
theorem rkeys_is (key : ByteArray) (hk : key.size = 32) (bx : Value) (w : World) (hB : BoxRow w bx) :
    Calls Try.prog 11 #[.string key, bx] w fun e w' => ∃ v, e = .returned v ∧ KeyRow w' v (keyN (keyB key) 52) ∧ Fr (fun _ => False) w w' := by
  obtain ⟨i0, hi0', hz0, hz1, hz2⟩ := info_parts infoI
  have Hi := Lib.hid hi0'
  have Hz0 := Lib.hid hz0
  have Hz1 := Lib.hid hz1
  have Hz2 := Lib.hid hz2
  clear hi0' hz0 hz1 hz2
  obtain ⟨bq, bcap, rfl, hbc⟩ := hB
  have HB := Lib.hid hbc
  have Hk := Lib.hid hk
  clear hbc
  go_enter Try.func11, Try.ntmps11
  go_upto_block 0 with fail
  go_cut [5, 6] (fun v5 _ wx => Hid (Fr (fun _ => False) w wx) ∧ Hid (wx.ownsRow w.heap.size 3 1 v5 32 (intV (keyB key))))
  case first =>
    go_wp2
    go_loopw [5, 6] (fun v5 v6 wr => ∃ i : Nat, i ≤ 32 ∧ v6 = .int .i64 (i : Int) ∧ Hid (Fr (fun _ => False) w wr) ∧ Hid (wr.ownsRow w.heap.size 3 1 v5 i (intV ((keyB key).take i)))) (fun _ v6 _ => 32 - (intOf v6).toNat)
    case atStart => exact ⟨0, by omega, rfl, Fr.refl _ _, ⟨rfl, .inl ⟨rfl, rfl⟩⟩⟩
    case round =>
      obtain ⟨i, hi, rfl, KF, KR⟩ := hrel
      by_cases hlt : i < 32
      · have hlI : (i : Int) < 32 := by omega
        have hi0 : (0 : Int) ≤ (i : Int) := by omega
        have hkI : (i : Int) < (key.size : Int) := by omega
        have hxi : i < key.size := by omega
        obtain ⟨b, hb⟩ : ∃ b : Nat, (key[i]'hxi).toNat = b := ⟨_, rfl⟩
        have hnx : intV ((keyB key).take (i + 1)) = intV ((keyB key).take i) ++ [.int .i64 (b : Int)] := by rw [← keyB_take key i hxi b hb, intV_snoc]
        have Hnx := Lib.hid hnx
        have hbl : b < 256 := by rw [← hb]; exact (key[i]'hxi).toNat_lt
        have hwb : wrap64 ((key[i]'hxi).toNat : Int) = (b : Int) := by rw [hb]; exact IntWalk.wrap64_in _ (by omega)
        have Hb := Lib.hid hwb
        clear hnx hb hbl hwb
        obtain ⟨ad, cap, hv⟩ := own_any KR.out
        subst hv
        go_wp2_with (at_builtin; (try rw [Hb.out]); refine wpList_append_my _ rfl _ _ 24 rfl w.heap.size 3 i0 (.int .i64 0) 1 8 Try.underlying24 Hi.out Hz0.out Hz1.out Hz2.out rfl (by decide) (.slice ad i cap) i _ (by rfl) (KR.out.alloc _) ⟨_, 0, none⟩ 1 1 [.int .i64 (b : Int)] (by rfl) (by rfl) (World.news_of_block (cs := #[.int .i64 (b : Int)]) (t := 3) (fr := (0, 0)) (heap_alloc_new _ _)) (by simp [Value.oneCell']) (by omega) (by unfold maxLen; omega) (by omega) (by have := KF.out.size; simp; omega) _ rfl ?_; intro g cap2 w2 hown hgrow hat hlt2 hsame; have IB := Lib.hid hown; have IF : Hid (Fr (fun _ => False) w w2) := Lib.hid ((KF.out.alloc _).grown hgrow (fun k hk => .inr (own_base KR.out hk))); clear hown hgrow hat hlt2 hsame)
        go_roundw
        case rel => exact ⟨i + 1, by omega, by go_num, IF, by rw [Hnx.out]; exact IB⟩
        case measure => simp [intOf]; omega
      · obtain rfl : i = 32 := by omega
        have e : (keyB key).take 32 = keyB key := List.take_of_length_le (by rw [keyB_length, Hk.out]; exact Nat.le_refl _)
        rw [e] at KR
        clear hlt hi e
        go_wp2
        go_meet
        exact ⟨KF, KR⟩
  case rest =>
    obtain ⟨KF, KR⟩ := hcut
    have HKl : Hid ((keyB key).length = 32) := by show _ = _; rw [keyB_length, Hk.out]
    have HKb : Hid (∀ i, (keyB key).getD i 0 < 256) := keyB_lt key
    obtain ⟨K, hK⟩ : ∃ K, keyB key = K := ⟨_, rfl⟩
    rw [hK] at HKl HKb KR
    have HK := Lib.hid hK
    clear hK
    go_wp2
    go_loopw [5, 7, 8, 9, 10] (fun v5 v7 v8 _ _ wr => ∃ k n N : Nat, Hid (n = k + 8 ∧ N = 32 + 4 * k) ∧ k ≤ 52 ∧ v7 = .int .i64 (tuN k : Nat) ∧ v8 = .int .i64 (n : Int) ∧ Hid (Fr (fun _ => False) w wr) ∧ Hid (wr.ownsRow w.heap.size 3 1 v5 N (intV (keyN K k)))) (fun _ _ v8 _ _ _ => 60 - (intOf v8).toNat)
    case atStart => exact ⟨0, 8, 32, ⟨rfl, rfl⟩, by omega, rfl, rfl, KF, KR⟩
    case round =>
      obtain ⟨k, n, N, hn, hk2, rfl, rfl, JF, JR⟩ := hrel
      clear KF KR
      by_cases hlt : k < 52
      · have hkI : (n : Int) < 60 := by have := hn.out; omega
        have hnI : (8 : Int) ≤ (n : Int) := by have := hn.out; omega
        obtain ⟨l, hl⟩ : ∃ l, keyN K k = l := ⟨_, rfl⟩
        have hll : l.length = 32 + 4 * k := by rw [← hl]; exact keyN_length K HKl.out k
        have hlb : ∀ i, l.getD i 0 < 256 := by rw [← hl]; exact keyN_lt K HKb.out k (by omega)
        have hnext : keyN K (k + 1) = wordN l (twL (preL l k) k) k 4 := by rw [← hl]; rfl
        rw [hl] at JR
        have Hll := Lib.hid hll
        have Hlb := Lib.hid hlb
        have Hnext := Lib.hid hnext
        have htu := tuN_next2 k hlt
        have htlt := tuN_lt k (by omega)
        obtain ⟨tn, htn⟩ : ∃ tn, tuN (k + 1) = tn := ⟨_, rfl⟩
        obtain ⟨tv, htv⟩ : ∃ tv, tuN k = tv := ⟨_, rfl⟩
        rw [htn, htv] at htu
        rw [htv] at htlt
        rw [htv]
        have Htn := Lib.hid htn
        have Htv := Lib.hid htv
        have HTU := Lib.hid htu
        have HTL := Lib.hid htlt
        have hpb := getD4 (l.getD (4 * k + 28) 0) (l.getD (4 * k + 29) 0) (l.getD (4 * k + 30) 0) (l.getD (4 * k + 31) 0) (hlb _) (hlb _) (hlb _) (hlb _)
        have htl := twL_lt (preL l k) k hlt hpb
        obtain ⟨t, ht⟩ : ∃ t, twL (preL l k) k = t := ⟨_, rfl⟩
        rw [ht] at htl Hnext
        have Ht := Lib.hid ht
        have Htl := Lib.hid htl
        obtain ⟨g, cap, hv⟩ := own_slice JR.out (by have := hn.out; omega)
        subst hv
        obtain ⟨q0, hq0⟩ : ∃ q, 4 * k + 28 = q := ⟨_, rfl⟩
        obtain ⟨q1, hq1⟩ : ∃ q, 4 * k + 29 = q := ⟨_, rfl⟩
        obtain ⟨q2, hq2⟩ : ∃ q, 4 * k + 30 = q := ⟨_, rfl⟩
        obtain ⟨q3, hq3⟩ : ∃ q, 4 * k + 31 = q := ⟨_, rfl⟩
        obtain ⟨x0, hx0⟩ : ∃ x, l.getD q0 0 = x := ⟨_, rfl⟩
        obtain ⟨x1, hx1⟩ : ∃ x, l.getD q1 0 = x := ⟨_, rfl⟩
        obtain ⟨x2, hx2⟩ : ∃ x, l.getD q2 0 = x := ⟨_, rfl⟩
        obtain ⟨x3, hx3⟩ : ∃ x, l.getD q3 0 = x := ⟨_, rfl⟩
        have d0 := own_int JR.out q0 (by omega) x0 hx0
        have d1 := own_int JR.out q1 (by omega) x1 hx1
        have d2 := own_int JR.out q2 (by omega) x2 hx2
        have d3 := own_int JR.out q3 (by omega) x3 hx3
        have e0 : IntKind.i64.wrap (IntKind.i64.wrap (4 * (n : Int)) - 4) = (q0 : Int) := by rw [IntWalk.i64_in (4 * (n : Int)) (by omega), IntWalk.i64_in _ (by omega)]; have := hn.out; omega
        have e1 : IntKind.i64.wrap (IntKind.i64.wrap (4 * (n : Int)) - 3) = (q1 : Int) := by rw [IntWalk.i64_in (4 * (n : Int)) (by omega), IntWalk.i64_in _ (by omega)]; have := hn.out; omega
        have e2 : IntKind.i64.wrap (IntKind.i64.wrap (4 * (n : Int)) - 2) = (q2 : Int) := by rw [IntWalk.i64_in (4 * (n : Int)) (by omega), IntWalk.i64_in _ (by omega)]; have := hn.out; omega
        have e3 : IntKind.i64.wrap (IntKind.i64.wrap (4 * (n : Int)) - 1) = (q3 : Int) := by rw [IntWalk.i64_in (4 * (n : Int)) (by omega), IntWalk.i64_in _ (by omega)]; have := hn.out; omega
        have u0 : (q0 : Int) < (N : Int) := by have := hn.out; omega
        have u1 : (q1 : Int) < (N : Int) := by have := hn.out; omega
        have u2 : (q2 : Int) < (N : Int) := by have := hn.out; omega
        have u3 : (q3 : Int) < (N : Int) := by have := hn.out; omega
        have z0 : (0 : Int) ≤ (q0 : Int) := by omega
        have z1 : (0 : Int) ≤ (q1 : Int) := by omega
        have z2 : (0 : Int) ≤ (q2 : Int) := by omega
        have z3 : (0 : Int) ≤ (q3 : Int) := by omega
        have hp : preL l k = [x0, x1, x2, x3] := by rw [preL, hq0, hq1, hq2, hq3, hx0, hx1, hx2, hx3]
        have l0 : x0 < 256 := by rw [← hx0]; exact hlb _
        have l1 : x1 < 256 := by rw [← hx1]; exact hlb _
        have l2 : x2 < 256 := by rw [← hx2]; exact hlb _
        have l3 : x3 < 256 := by rw [← hx3]; exact hlb _
        have Hp := Lib.hid hp
        have L0 := Lib.hid l0
        have L1 := Lib.hid l1
        have L2 := Lib.hid l2
        have L3 := Lib.hid l3
        clear hl hll hlb hnext htu htlt htn htv hpb htl ht hq0 hq1 hq2 hq3 hx0 hx1 hx2 hx3 hp l0 l1 l2 l3
        go_upto_region 10 with fail
        go_still_tail 24, (by kernel_rfl)
        go_upto_region 11 with fail
        show Code.wp _ _ _ _ (wr.drew.alloc (.cells (intV [x0, x1, x2, x3]).toArray 3))
        have hb : (wr.drew.alloc (.cells (intV [x0, x1, x2, x3]).toArray 3)).heap[wr.heap.size]? = some (.cells (intV [x0, x1, x2, x3]).toArray 3 (0, 0)) := heap_alloc_new wr.drew _
        have hf : Fr (fun _ => False) w (wr.drew.alloc (.cells (intV [x0, x1, x2, x3]).toArray 3)) := JF.out.drew.alloc _
        have hR : (wr.drew.alloc (.cells (intV [x0, x1, x2, x3]).toArray 3)).ownsRow w.heap.size 3 1 (.slice (some ⟨g, 0, none⟩) N cap) N (intV l) := own_keep JR.out ((Fr.refl (fun _ => False) wr).drew.alloc _) (fun _ _ x => x)
        have hgt : g ≠ wr.heap.size := by
          have := block_lt_of_cell (a := ⟨g, q0, none⟩) d0
          exact fun e => by rw [e] at this; exact absurd this (Nat.lt_irrefl _)
        have hg0 : w.heap.size ≤ wr.heap.size := JF.out.size
        generalize wr.heap.size = g0 at *
        generalize wr.drew.alloc (.cells (intV [x0, x1, x2, x3]).toArray 3) = V at *
        clear d0 d1 d2 d3 e0 e1 e2 e3 u0 u1 u2 u3 z0 z1 z2 z3
        have p0 : V.cell? ⟨g0, 0, none⟩ = some (.int .i64 (x0 : Int)) := cell_of hb 0
        have p1 : V.cell? ⟨g0, 1, none⟩ = some (.int .i64 (x1 : Int)) := cell_of hb 1
        have p2 : V.cell? ⟨g0, 2, none⟩ = some (.int .i64 (x2 : Int)) := cell_of hb 2
        have p3 : V.cell? ⟨g0, 3, none⟩ = some (.int .i64 (x3 : Int)) := cell_of hb 3
        have hbx : ∀ x, x < 256 → V.cell? ⟨bq, x, none⟩ = some (.int .i64 (box x : Nat)) := fun x hx => hf.cell_ (HB.out x hx) (fun x => x)
        have b0 := hbx x0 L0.out
        have b1 := hbx x1 L1.out
        have b2 := hbx x2 L2.out
        have b3 := hbx x3 L3.out
        have hyl1 := box_lt x1 L1.out
        obtain ⟨y0, hy0⟩ : ∃ y, box x0 = y := ⟨_, rfl⟩
        obtain ⟨y1, hy1⟩ : ∃ y, box x1 = y := ⟨_, rfl⟩
        obtain ⟨y2, hy2⟩ : ∃ y, box x2 = y := ⟨_, rfl⟩
        obtain ⟨y3, hy3⟩ : ∃ y, box x3 = y := ⟨_, rfl⟩
        rw [hy0] at b0
        rw [hy1] at b1 hyl1
        rw [hy2] at b2
        rw [hy3] at b3
        have i0' : (x0 : Int) < 256 := by have := L0.out; omega
        have i1' : (x1 : Int) < 256 := by have := L1.out; omega
        have i2' : (x2 : Int) < 256 := by have := L2.out; omega
        have i3' : (x3 : Int) < 256 := by have := L3.out; omega
        have FV := Lib.hid hf
        have RV := Lib.hid hR
        have BV := Lib.hid hb
        have hty := HTU.out
        have hte := Ht.out
        have hpe := Hp.out
        rw [hpe] at hte
        clear hf hR hb hbx JF JR
        have hcase : k % 8 = 0 ∨ k % 8 = 4 ∨ (k % 8 ≠ 0 ∧ k % 8 ≠ 4) := by omega
        rcases hcase with h8 | h8 | h8
        case' inl =>
          have h8I : (n : Int) % 8 = 0 := by have := hn.out; omega
          rw [if_pos h8] at hty
          obtain ⟨z, hz⟩ : ∃ z, y1 ^^^ tv = z := ⟨_, rfl⟩
          have htw : t = [z, y2, y3, y0] := by
            have e : t = [box x1 ^^^ tv, box x2, box x3, box x0] := by rw [← hte, twL, if_pos h8, Htv.out]; rfl
            rw [e, hy0, hy1, hy2, hy3, hz]
          have hzz := xorI y1 tv (by omega) (by have := HTL.out; omega)
          rw [hz] at hzz
          have Hd := Lib.hid (fun W => rproduct_is tv 2 HTL.out (by decide) W)
          rw [← hty] at Hd
          have HZ := Lib.hid hzz
          have Htw := Lib.hid htw
          clear hte hpe h8 hz hzz htw hy0 hy1 hy2 hy3 hty hyl1
          go_upto_region 12 with fail
          go_still_tail 26, (by kernel_rfl)
          (try rw [HZ.out])
          go_upto_region 14 with (go_at_call 14; refine (Hd.out _).mono ?_; rintro e w' ⟨rfl, rfl⟩)
          (try rw [HZ.out])
          go_upto_block 4 with fail
          show Code.wp _ _ _ _ (V.drew.alloc (.cells (intV [z, y2, y3, y0]).toArray 3))
          rw [← Htw.out]
          have hb : (V.drew.alloc (.cells (intV t).toArray 3)).heap[V.heap.size]? = some (.cells (intV t).toArray 3 (0, 0)) := heap_alloc_new V.drew _
          have hf : Fr (fun _ => False) w (V.drew.alloc (.cells (intV t).toArray 3)) := FV.out.drew.alloc _
          have hR : (V.drew.alloc (.cells (intV t).toArray 3)).ownsRow w.heap.size 3 1 (.slice (some ⟨g, 0, none⟩) N cap) N (intV l) := own_keep RV.out ((Fr.refl (fun _ => False) V).drew.alloc _) (fun _ _ x => x)
          have hgn : g ≠ V.heap.size := by
            have hgl : g < V.heap.size := by
              obtain ⟨cur, hc⟩ := own_ty RV.out (g := g) rfl
              exact lt_of_block hc
            omega
          clear hgt
          generalize V.heap.size = gt at *
          generalize V.drew.alloc (.cells (intV t).toArray 3) = U at *
          have FU := Lib.hid hf
          have RU := Lib.hid hR
          have BU := Lib.hid hb
          clear hb hf hR FV RV BV p0 p1 p2 p3 b0 b1 b2 b3 Hd HZ
        case' inr.inl =>
          have h8I : (n : Int) % 8 = 4 := by have := hn.out; omega
          rw [if_neg (by omega)] at hty
          have htw : t = [y0, y1, y2, y3] := by
            have e : t = [box x0, box x1, box x2, box x3] := by rw [← hte, twL, if_neg (by omega), if_pos h8]; rfl
            rw [e, hy0, hy1, hy2, hy3]
          have Htw := Lib.hid htw
          subst hty
          clear hte hpe h8 htw hy0 hy1 hy2 hy3 hyl1
          go_upto_region 15 with fail
          go_still_tail 24, (by kernel_rfl)
          go_upto_block 4 with fail
          show Code.wp _ _ _ _ (V.drew.alloc (.cells (intV [y0, y1, y2, y3]).toArray 3))
          rw [← Htw.out]
          have hb : (V.drew.alloc (.cells (intV t).toArray 3)).heap[V.heap.size]? = some (.cells (intV t).toArray 3 (0, 0)) := heap_alloc_new V.drew _
          have hf : Fr (fun _ => False) w (V.drew.alloc (.cells (intV t).toArray 3)) := FV.out.drew.alloc _
          have hR : (V.drew.alloc (.cells (intV t).toArray 3)).ownsRow w.heap.size 3 1 (.slice (some ⟨g, 0, none⟩) N cap) N (intV l) := own_keep RV.out ((Fr.refl (fun _ => False) V).drew.alloc _) (fun _ _ x => x)
          have hgn : g ≠ V.heap.size := by
            have hgl : g < V.heap.size := by
              obtain ⟨cur, hc⟩ := own_ty RV.out (g := g) rfl
              exact lt_of_block hc
            omega
          clear hgt
          generalize V.heap.size = gt at *
          generalize V.drew.alloc (.cells (intV t).toArray 3) = U at *
          have FU := Lib.hid hf
          have RU := Lib.hid hR
          have BU := Lib.hid hb
          clear hb hf hR FV RV BV p0 p1 p2 p3 b0 b1 b2 b3
        case' inr.inr =>
          have e0 : ((n : Int) % 8 == 0) = false := by
            have : ¬ ((n : Int) % 8 = 0) := by have := hn.out; omega
            simp [this]
          have e4 : ((n : Int) % 8 == 4) = false := by
            have : ¬ ((n : Int) % 8 = 4) := by have := hn.out; omega
            simp [this]
          rw [if_neg h8.1] at hty
          have htw : t = [x0, x1, x2, x3] := by rw [← hte, twL, if_neg h8.1, if_neg h8.2]
          rw [← htw] at BV
          subst hty
          clear hte hpe h8 htw hy0 hy1 hy2 hy3 hyl1 p0 p1 p2 p3 b0 b1 b2 b3
          go_upto_block 4 with fail
          have hgn := hgt
          clear hgt
          generalize g0 = gt at *
          generalize V = U at *
          have FU := FV
          have RU := RV
          have BU := BV
          clear FV RV BV
        all_goals
          (try clear e0 e4)
          (try clear h8I)
          have htl4 : t.length = 4 := by
            rw [← Ht.out, twL]
            split
            · rfl
            · split <;> rfl
          have Htl4 := Lib.hid htl4
          have h4n : IntKind.i64.wrap (4 * (n : Int)) = 4 * (n : Int) := IntWalk.i64_in _ (by omega)
          rw [h4n]
          clear htl4 h4n
          go_wp2
          go_loopw [5, 10] (fun v5 v10 wr => ∃ j M g cap : Nat, Hid (M = N + j) ∧ j ≤ 4 ∧ v10 = .int .i64 (j : Int) ∧ v5 = .slice (some ⟨g, 0, none⟩) M cap ∧ g ≠ gt ∧ Hid (Fr (fun _ => False) w wr) ∧ Hid (wr.ownsRow w.heap.size 3 1 (.slice (some ⟨g, 0, none⟩) M cap) M (intV (wordN l t k j))) ∧ Hid (wr.heap[gt]? = some (.cells (intV t).toArray 3 (0, 0)))) (fun _ v10 _ => 4 - (intOf v10).toNat)
          case atStart => exact ⟨0, N, g, cap, rfl, by omega, rfl, rfl, hgn, FU, RU, BU⟩
          case round =>
            obtain ⟨j, M, g, cap, hM, hj, rfl, rfl, hgn, LF, LR, LB⟩ := hrel
            clear FU RU BU
            by_cases hlj : j < 4
            · have hljI : (j : Int) < 4 := by omega
              have hj0 : (0 : Int) ≤ (j : Int) := by omega
              obtain ⟨q, hq⟩ : ∃ q, 4 * k + j = q := ⟨_, rfl⟩
              have eq : IntKind.i64.wrap (IntKind.i64.wrap (4 * IntKind.i64.wrap ((n : Int) - 8)) + (j : Int)) = (q : Int) := by
                have := hn.out
                rw [IntWalk.i64_in ((n : Int) - 8) (by omega), IntWalk.i64_in (4 * ((n : Int) - 8)) (by omega), IntWalk.i64_in _ (by omega)]
                omega
              have uq : (q : Int) < (M : Int) := by have := hn.out; have := hM.out; omega
              have zq : (0 : Int) ≤ (q : Int) := by omega
              obtain ⟨x, hx⟩ : ∃ x, l.getD q 0 = x := ⟨_, rfl⟩
              obtain ⟨y, hy⟩ : ∃ y, t.getD j 0 = y := ⟨_, rfl⟩
              have hxl : x < 256 := by rw [← hx]; exact Hlb.out _
              have hyl : y < 256 := by rw [← hy]; exact Htl.out _
              have cx := own_int LR.out q (by rw [wordN_length, Hll.out]; omega) x (by rw [wordN_get _ _ _ _ _ (by rw [Hll.out]; omega), hx])
              have cy : wr.cell? ⟨gt, j, none⟩ = some (.int .i64 (y : Int)) := by
                rw [cell_of LB.out j]
                have : j < t.length := by rw [Htl4.out]; exact hlj
                rw [← hy]
                simp [intV, List.getD, this]
              have hz := xorI x y (by omega) (by omega)
              obtain ⟨z, hze⟩ : ∃ z, x ^^^ y = z := ⟨_, rfl⟩
              rw [hze] at hz
              have hstep : intV (wordN l t k (j + 1)) = intV (wordN l t k j) ++ [.int .i64 (z : Int)] := by rw [← hze, ← hx, ← hy, ← hq, ← intV_snoc]; rfl
              have HX := Lib.hid hz
              have Hst := Lib.hid hstep
              have hgl := lt_of_block LB.out
              have Hgl := Lib.hid hgl
              have HMb : Hid (M ≤ 240) := by show _ ≤ _; have := hM.out; have := hn.out; omega
              clear hz hze hstep hx hy hq hxl hyl hgl
              go_upto_region 19 with fail
              have hz := HX.out
              go_region_law ((refine step_append_my _ (by rfl) _ _ 24 (by rfl) w.heap.size 3 i0 (.int .i64 0) 1 8 Try.underlying24 Hi.out Hz0.out Hz1.out Hz2.out rfl (by decide) (.slice (some ⟨g, 0, none⟩) M cap) M (intV (wordN l t k j)) (by rfl) ((own_keep LR.out (((Fr.refl (fun _ => False) wr).alloc (.cells #[.int .i64 (z : Int)] 3)).drew) (fun _ _ x => x))) ⟨wr.heap.size, 0, none⟩ 1 1 [.int .i64 (z : Int)] (by rfl) (by rfl) (World.news_of_block (cs := #[.int .i64 (z : Int)]) (t := 3) (fr := (0, 0)) (heap_alloc_new wr _)) (by simp [Value.oneCell']) (by omega) (by have := HMb.out; unfold maxLen; omega) (by have := HMb.out; omega) (by have := LF.out.size; simp; omega) (wr.heap.size + 1) (by simp) ?_; intro g2 cap2 w2 hown hgrow hat hlt2 hsame; have IB := Lib.hid hown; have IF : Hid (Fr (fun _ => False) w w2) := Lib.hid ((LF.out.alloc _).drew.grown hgrow (fun k hk => .inr (own_base LR.out hk))); have IT : Hid (w2.heap[gt]? = some (.cells (intV t).toArray 3 (0, 0))) := Lib.hid ((hgrow.block gt (by have := Hgl.out; simp; omega) (fun e => hgn (by first | (simpa [Value.ownBlock] using e) | (simpa [Value.ownBlock] using e.symm)))).trans (block_alloc (w := wr) LB.out)); have IG : g2 ≠ gt := hat.elim (fun e e2 => hgn (by rw [← e2]; first | (simpa [Value.ownBlock] using e) | (simpa [Value.ownBlock] using e.symm))) (fun e e2 => by have h1 := Hgl.out; omega); clear hown hgrow hat hlt2 hsame))
              all_goals go_wp2
              all_goals go_roundw
              all_goals first
                | exact ⟨j + 1, M + 1, g2, cap2, by show _ = _; have := hM.out; omega, by omega, by go_num, rfl, IG, IF, by rw [Hst.out]; exact IB, IT⟩
                | (simp [intOf]; omega)
            · obtain rfl : j = 4 := by omega
              rw [← Hnext.out] at LR
              clear hlj hj
              go_wp2
              go_roundw
              case rel => exact ⟨k + 1, n + 1, M, by refine ⟨?_, ?_⟩ <;> (have := hn.out; have := hM.out; omega), by omega, by rw [Htn.out], by go_num, LF, LR⟩
              case measure => simp [intOf]; omega
      · obtain rfl : k = 52 := by omega
        obtain ⟨rfl, rfl⟩ := hn.out
        clear hlt hk2
        go_wp2
        go_ret
        exact ⟨_, rfl, by rw [HK.out]; exact KeyRow.of (keyN_length K HKl.out 52) JR.out, JF.out⟩
end Go.Proofs.Ytmcenocmilhekaa
