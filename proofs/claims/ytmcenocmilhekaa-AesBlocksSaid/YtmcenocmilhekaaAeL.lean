/- Walks of layer 25's reference: a block. -/
import Derived.Test.YtmcenocmilhekaaAeK
import Derived.Test.YtmcenocmilhekaaAeY
namespace Go.Proofs.Ytmcenocmilhekaa
set_option linter.unusedVariables false
open Go.RowKit Go.My Go.Aes

theorem intV_length (l : List Nat) : (intV l).toArray.size = l.length := by simp [intV]
theorem intA_get (l : List Nat) (i : Nat) (h : i < l.length) (x : Nat) (hx : l.getD i 0 = x) : (intV l).toArray[i]? = some (.int .i64 (x : Int)) := by
  rw [← hx]
  simp [intV, h, List.getD]
theorem intA_set (l : List Nat) (i x : Nat) : (intV l).toArray.setIfInBounds i (.int .i64 (x : Int)) = (intV (l.set i x)).toArray := by simp [intV, List.map_set]
def map16 (f g : Nat → Nat) (k : Nat) : List Nat := (List.range 16).map fun i => if i < k then f i else g i
theorem map16_length (f g : Nat → Nat) (k : Nat) : (map16 f g k).length = 16 := by simp [map16]
theorem map16_next (f g : Nat → Nat) (k : Nat) (hk : k < 16) : (map16 f g k).set k (f k) = map16 f g (k + 1) := map16_set f g k hk
theorem map16_at (f g : Nat → Nat) (k i : Nat) (hi : i < 16) : (map16 f g k).getD i 0 = if i < k then f i else g i := by simp [map16, List.getD, hi]
theorem map16_all (f g : Nat → Nat) (l : List Nat) (hl : l.length = 16) (h : ∀ i, i < 16 → f i = l.getD i 0) : map16 f g 16 = l := by
  apply List.ext_getElem?
  intro i
  rcases Nat.lt_or_ge i 16 with hi | hi
  · have h1 := map16_at f g 16 i hi
    rw [if_pos hi, h i hi] at h1
    simp only [List.getD] at h1
    have h2 : i < (map16 f g 16).length := by rw [map16_length]; exact hi
    rw [List.getElem?_eq_getElem h2, List.getElem?_eq_getElem (by omega)] at h1 ⊢
    simpa using h1
  · rw [List.getElem?_eq_none (by rw [map16_length]; exact hi), List.getElem?_eq_none (by omega)]
theorem map16_none (f g : Nat → Nat) (l : List Nat) (hl : l.length = 16) (h : ∀ i, i < 16 → g i = l.getD i 0) : map16 f g 0 = l := by
  have e : map16 f g 0 = map16 g g 16 := by
    unfold map16
    exact List.map_congr_left (fun i hi => by simp at hi; simp [hi])
  rw [e]
  exact map16_all g g l hl h

theorem rep0 (i : Nat) (hi : i < 16) : 0 = (List.replicate 16 0 : List Nat).getD i 0 := by rw [List.getD, List.getElem?_replicate, if_pos hi]; rfl
theorem xorL_at (a b : List Nat) (i : Nat) (hi : i < 16) : (xorL a b 16).getD i 0 = a.getD i 0 ^^^ b.getD i 0 := by simp [xorL, List.getD, hi]
theorem shufL_zero (s : List Nat) : (List.replicate 16 0 : List Nat) = shufL s 0 := (map16_none (fun i => box (s.getD ((i + 4 * (i % 4)) % 16) 0)) (fun _ => 0) _ rfl (fun i hi => rep0 i hi)).symm
theorem xr1 (a b c d : Nat) : b ^^^ c ^^^ d ^^^ a = a ^^^ b ^^^ c ^^^ d := by rw [Nat.xor_comm _ a, ← Nat.xor_assoc, ← Nat.xor_assoc]
theorem xr2 (a b c d : Nat) : a ^^^ b ^^^ c ^^^ d = c ^^^ d ^^^ a ^^^ b := by rw [Nat.xor_assoc (a ^^^ b) c d, Nat.xor_comm (a ^^^ b), ← Nat.xor_assoc]
/-- What stands in the arrays: b, the result's cell, s. -/
structure BlSt (w wr : World) (b s : List Nat) (p3 p6 p7 : Nat) : Prop where
  fr : Fr (fun _ => False) w wr
  b3 : wr.heap[p3]? = some (.cells (u8s b) 22 (0, 0))
  b6 : wr.heap[p6]? = some (.cells (u8s (List.replicate 16 0)) 22 (0, 0))
  b7 : wr.heap[p7]? = some (.cells (intV s).toArray 45 (0, 0))
  l3 : w.heap.size ≤ p3
  l6 : w.heap.size ≤ p6
  l7 : w.heap.size ≤ p7
theorem BlSt.n37 {w wr : World} {b s : List Nat} {p3 p6 p7 : Nat} (h : BlSt w wr b s p3 p6 p7) : p3 ≠ p7 := ne_of_ty h.b3 h.b7 (by decide)
theorem BlSt.n67 {w wr : World} {b s : List Nat} {p3 p6 p7 : Nat} (h : BlSt w wr b s p3 p6 p7) : p6 ≠ p7 := ne_of_ty h.b6 h.b7 (by decide)
theorem BlSt.setS {w wr : World} {b s : List Nat} {p3 p6 p7 : Nat} (h : BlSt w wr b s p3 p6 p7) (j x : Nat) : BlSt w (wr.setCell ⟨p7, j, none⟩ (.int .i64 (x : Int))) b (s.set j x) p3 p6 p7 := by
  have hf := (Fr.refl (fun k => k = p7) wr).setCell ⟨p7, j, none⟩ (.int .i64 (x : Int)) (.inl rfl)
  refine ⟨h.fr.trans hf (fun k hk => .inr (by have := h.l7; omega)), hf.keep h.b3 h.n37, hf.keep h.b6 h.n67, ?_, h.l3, h.l6, h.l7⟩
  have := block_setCell h.b7 (.int .i64 (x : Int)) (off := j)
  rwa [intA_set] at this
theorem BlSt.fresh {w wr w' : World} {b s : List Nat} {p3 p6 p7 : Nat} (h : BlSt w wr b s p3 p6 p7) (hf : Fr (fun _ => False) wr w') : BlSt w w' b s p3 p6 p7 :=
  ⟨h.fr.trans hf (fun _ h => .inl h), hf.keep h.b3 (fun x => x), hf.keep h.b6 (fun x => x), hf.keep h.b7 (fun x => x), h.l3, h.l6, h.l7⟩
theorem BlSt.cs {w wr : World} {b s : List Nat} {p3 p6 p7 : Nat} (h : BlSt w wr b s p3 p6 p7) (hs : s.length = 16) (i : Nat) (hi : i < 16) (x : Nat) (hx : s.getD i 0 = x) : wr.cell? ⟨p7, i, none⟩ = some (.int .i64 (x : Int)) := by
  rw [cell_of h.b7 i, intA_get s i (by omega) x hx]
theorem BlSt.other {w wr w' : World} {b s : List Nat} {p3 p6 p7 p : Nat} (h : BlSt w wr b s p3 p6 p7) (hf : Fr (fun k => k = p) wr w') (h3 : p3 ≠ p) (h6 : p6 ≠ p) (h7 : p7 ≠ p) (hp : w.heap.size ≤ p) : BlSt w w' b s p3 p6 p7 :=
  ⟨h.fr.trans hf (fun k hk => .inr (by omega)), hf.keep h.b3 h3, hf.keep h.b6 h6, hf.keep h.b7 h7, h.l3, h.l6, h.l7⟩
/-- And t. -/
structure BtSt (w wr : World) (b s t : List Nat) (p3 p6 p7 pt : Nat) : Prop where
  bl : BlSt w wr b s p3 p6 p7
  bt : wr.heap[pt]? = some (.cells (intV t).toArray 45 (0, 0))
  n7 : p7 ≠ pt
  lt : w.heap.size ≤ pt
theorem BtSt.setT {w wr : World} {b s t : List Nat} {p3 p6 p7 pt : Nat} (h : BtSt w wr b s t p3 p6 p7 pt) (j x : Nat) : BtSt w (wr.setCell ⟨pt, j, none⟩ (.int .i64 (x : Int))) b s (t.set j x) p3 p6 p7 pt := by
  have hf := (Fr.refl (fun k => k = pt) wr).setCell ⟨pt, j, none⟩ (.int .i64 (x : Int)) (.inl rfl)
  have hb := h.bl
  have hl := h.lt
  refine ⟨⟨hb.fr.trans hf (fun k hk => .inr (by omega)), hf.keep hb.b3 (ne_of_ty hb.b3 h.bt (by decide)), hf.keep hb.b6 (ne_of_ty hb.b6 h.bt (by decide)), hf.keep hb.b7 h.n7, hb.l3, hb.l6, hb.l7⟩, ?_, h.n7, hl⟩
  have := block_setCell h.bt (.int .i64 (x : Int)) (off := j)
  rwa [intA_set] at this
theorem BtSt.setS {w wr : World} {b s t : List Nat} {p3 p6 p7 pt : Nat} (h : BtSt w wr b s t p3 p6 p7 pt) (j x : Nat) : BtSt w (wr.setCell ⟨p7, j, none⟩ (.int .i64 (x : Int))) b (s.set j x) t p3 p6 p7 pt :=
  ⟨h.bl.setS j x, ((Fr.refl (fun k => k = p7) wr).setCell ⟨p7, j, none⟩ (.int .i64 (x : Int)) (.inl rfl)).keep h.bt (fun e => h.n7 e.symm), h.n7, h.lt⟩
theorem BtSt.drew {w wr : World} {b s t : List Nat} {p3 p6 p7 pt : Nat} (h : BtSt w wr b s t p3 p6 p7 pt) : BtSt w wr.drew b s t p3 p6 p7 pt := ⟨h.bl.fresh (Fr.refl _ _).drew, h.bt, h.n7, h.lt⟩
theorem BtSt.make {w wr : World} {b s : List Nat} {p3 p6 p7 : Nat} (h : BlSt w wr b s p3 p6 p7) (t : List Nat) : BtSt w (wr.alloc (.cells (intV t).toArray 45)) b s t p3 p6 p7 wr.heap.size :=
  ⟨h.fresh ((Fr.refl _ _).alloc _), heap_alloc_new wr _, by have := lt_of_block h.b7; omega, h.fr.size⟩
theorem BtSt.ct {w wr : World} {b s t : List Nat} {p3 p6 p7 pt : Nat} (h : BtSt w wr b s t p3 p6 p7 pt) (ht : t.length = 16) (i : Nat) (hi : i < 16) (x : Nat) (hx : t.getD i 0 = x) : wr.cell? ⟨pt, i, none⟩ = some (.int .i64 (x : Int)) := by
  rw [cell_of h.bt i, intA_get t i (by omega) x hx]

set_option maxHeartbeats 8000000 in
set_option maxRecDepth 100000 in
theorem rblock_is (W b : List Nat) (hb : b.length = 16) (hbl : ∀ i, b.getD i 0 < 256) (hW : W.length = 240) (hWl : ∀ i, W.getD i 0 < 256) (wv bx : Value) (w : World) (hK : KeyRow w wv W) (hB : BoxRow w bx) :
    Calls Try.prog 10 #[.agg (u8s b), wv, bx] w fun e w' => e = .returned (.agg (u8s (blockL W b))) ∧ Fr (fun _ => False) w w' := by
  obtain ⟨bq, bcap, rfl, hbc⟩ := hB
  obtain ⟨kq, kcap, rfl, hkc⟩ := hK
  have HB := Lib.hid hbc
  have HK := Lib.hid hkc
  have Hb := Lib.hid hb
  have Hbl := Lib.hid hbl
  have HW := Lib.hid hW
  have HWl := Lib.hid hWl
  clear hbc hkc hb hbl hW hWl
  go_enter Try.func10, Try.ntmps10
  go_upto_block 0 with fail
  show Code.wp _ _ _ _ (((w.alloc (.cells (u8s b) 22)).alloc (.cells (u8s (List.replicate 16 0)) 22)).alloc (.cells (intV (List.replicate 16 0)).toArray 45))
  have hst : ∃ V p3 p6 p7, ((w.alloc (.cells (u8s b) 22)).alloc (.cells (u8s (List.replicate 16 0)) 22)).alloc (.cells (intV (List.replicate 16 0)).toArray 45) = V ∧ w.heap.size = p3 ∧ w.heap.size + 1 = p6 ∧ w.heap.size + 1 + 1 = p7 ∧
      BlSt w V b (List.replicate 16 0) p3 p6 p7 := by
    refine ⟨_, _, _, _, rfl, rfl, rfl, rfl, ⟨(((Fr.refl _ w).alloc _).alloc _).alloc _, block_alloc (block_alloc (heap_alloc_new w _)), ?_, ?_, by omega, by omega, by omega⟩⟩
    · have h := heap_alloc_new (w.alloc (.cells (u8s b) 22)) (.cells (u8s (List.replicate 16 0)) 22)
      rw [show (w.alloc (.cells (u8s b) 22)).heap.size = w.heap.size + 1 by simp] at h
      exact block_alloc h
    · have h := heap_alloc_new ((w.alloc (.cells (u8s b) 22)).alloc (.cells (u8s (List.replicate 16 0)) 22)) (.cells (intV (List.replicate 16 0)).toArray 45)
      rwa [show ((w.alloc (.cells (u8s b) 22)).alloc (.cells (u8s (List.replicate 16 0)) 22)).heap.size = w.heap.size + 1 + 1 by simp] at h
  obtain ⟨V, p3, p6, p7, hV, q3, q6, q7, hS⟩ := hst
  rw [hV, q7, q6, q3]
  have hz : (List.replicate 16 0 : List Nat) = map16 (fun i => b.getD i 0 ^^^ W.getD i 0) (fun _ => 0) 0 := (map16_none _ _ _ rfl (fun i hi => rep0 i hi)).symm
  rw [hz] at hS
  have HS := Lib.hid hS
  clear hV q3 q6 q7 hS hz
  go_cut [8] (fun _ wx => Hid (BlSt w wx b (rndN W b 0) p3 p6 p7))
  case first =>
    go_wp2
    go_loopw [8] (fun v8 wr => ∃ i : Nat, i ≤ 16 ∧ v8 = .int .i64 (i : Int) ∧ Hid (BlSt w wr b (map16 (fun i => b.getD i 0 ^^^ W.getD i 0) (fun _ => 0) i) p3 p6 p7)) (fun v8 _ => 16 - (intOf v8).toNat)
    case atStart => exact ⟨0, by omega, rfl, HS⟩
    case round =>
      obtain ⟨i, hi, rfl, KS⟩ := hrel
      clear HS
      by_cases hlt : i < 16
      · have hlI : (i : Int) < 16 := by omega
        have hi0 : (0 : Int) ≤ (i : Int) := by omega
        have h240 : (i : Int) < 240 := by omega
        obtain ⟨x, hx⟩ : ∃ x, b.getD i 0 = x := ⟨_, rfl⟩
        obtain ⟨y, hy⟩ : ∃ y, W.getD i 0 = y := ⟨_, rfl⟩
        have hxl : x < 256 := by rw [← hx]; exact Hbl.out i
        have hyl : y < 256 := by rw [← hy]; exact HWl.out i
        have cb : wr.cell? ⟨p3, i, none⟩ = some (.int .u8 (x : Int)) := (cell_of KS.out.b3 i).trans ((u8s_get b i (by rw [Hb.out]; exact hlt)).trans (by rw [hx]))
        have ck : wr.cell? ⟨kq, i, none⟩ = some (.int .i64 (y : Int)) := KS.out.fr.cell_ ((HK.out i (by omega)).trans (by rw [hy])) (fun x => x)
        have cs := KS.out.cs (map16_length _ _ _) i hlt _ rfl
        have f7 := free_of KS.out.b7 i
        have hw : wrap64 (x : Int) = (x : Int) := IntWalk.wrap64_in _ (by omega)
        have hz := xorI x y (by omega) (by omega)
        have hset := KS.out.setS i (x ^^^ y)
        have hnx := map16_next (fun i => b.getD i 0 ^^^ W.getD i 0) (fun _ => 0) i hlt
        rw [hx, hy] at hnx
        rw [hnx] at hset
        have MS := Lib.hid hset
        have HZ := Lib.hid hz
        have HWx := Lib.hid hw
        clear hz hset hnx hx hy hw hxl hyl
        go_upto_region 5 with fail
        go_region
        rw [HWx.out, HZ.out]
        go_wp2
        go_roundw
        case rel => exact ⟨i + 1, by omega, by go_num, MS.out.fresh (Fr.refl _ _).drew⟩
        case measure => simp [intOf]; omega
      · obtain rfl : i = 16 := by omega
        have e : map16 (fun i => b.getD i 0 ^^^ W.getD i 0) (fun _ => 0) 16 = rndN W b 0 :=
          map16_all _ _ _ (xorL_length _ _ _) (fun i hi => by
            show _ = (xorL b (keyL W 0) 16).getD i 0
            rw [xorL_at _ _ i hi, keyL_get _ _ i hi, Nat.mul_zero, Nat.zero_add])
        rw [e] at KS
        clear hlt hi e
        go_wp2
        go_meet
        exact KS
  case rest =>
    have KS0 := hcut
    clear hcut HS
    go_wp2
    go_loopw [9, 10, 11, 12, 13, 14, 15, 16, 17] (fun v9 _ _ _ _ _ _ _ _ wr => ∃ r n : Nat, Hid (n = r + 1) ∧ r ≤ 14 ∧ v9 = .int .i64 (n : Int) ∧ Hid (BlSt w wr b (rndN W b r) p3 p6 p7)) (fun v9 _ _ _ _ _ _ _ _ _ => 15 - (intOf v9).toNat)
    case atStart => exact ⟨0, 1, rfl, by omega, rfl, KS0⟩
    case round =>
      obtain ⟨r, n, hn, hr, rfl, KS⟩ := hrel
      clear KS0
      by_cases hlt : r < 14
      · have hn15 : (n : Int) < 15 := by have := hn.out; omega
        have hn0 : (0 : Int) ≤ (n : Int) := by omega
        obtain ⟨s, hs⟩ : ∃ s, rndN W b r = s := ⟨_, rfl⟩
        have hsn : s.length = 16 := by rw [← hs]; exact rndN_length W b r
        have hsl : ∀ i, s.getD i 0 < 256 := by rw [← hs]; exact rndN_lt W b HWl.out Hbl.out r
        have hnx : rndN W b (r + 1) = xorL (preR s n) (keyL W n) 16 := by rw [← hs, hn.out]; rfl
        rw [hs] at KS
        have Hsn := Lib.hid hsn
        have Hsl := Lib.hid hsl
        have Hnx := Lib.hid hnx
        clear hs hsn hsl hnx
        go_upto_block 4 with fail
        show Code.wp _ _ _ _ (wr.alloc (.cells (intV (List.replicate 16 0)).toArray 45))
        rw [shufL_zero s]
        have hT := BtSt.make KS.out (shufL s 0)
        generalize wr.heap.size = pt at *
        generalize wr.alloc (.cells (intV (shufL s 0)).toArray 45) = V1 at *
        have HT := Lib.hid hT
        clear hT KS
        go_cut [11] (fun _ wx => Hid (BtSt w wx b s (shufL s 16) p3 p6 p7 pt))
        case first =>
          go_wp2
          go_loopw [11] (fun v11 wr => ∃ i : Nat, i ≤ 16 ∧ v11 = .int .i64 (i : Int) ∧ Hid (BtSt w wr b s (shufL s i) p3 p6 p7 pt)) (fun v11 _ => 16 - (intOf v11).toNat)
          case atStart => exact ⟨0, by omega, rfl, HT⟩
          case round =>
            obtain ⟨i, hi, rfl, KS⟩ := hrel
            clear HT
            by_cases hli : i < 16
            · have hlI : (i : Int) < 16 := by omega
              have hi0 : (0 : Int) ≤ (i : Int) := by omega
              obtain ⟨j, hj⟩ : ∃ j, (i + 4 * (i % 4)) % 16 = j := ⟨_, rfl⟩
              have hset := shufL_set s i hli
              rw [hj] at hset
              have hjI : ((i : Int) + 4 * ((i : Int) % 4)) % 16 = (j : Int) := by omega
              obtain ⟨x, hx⟩ : ∃ x, s.getD j 0 = x := ⟨_, rfl⟩
              have hxl : x < 256 := by rw [← hx]; exact Hsl.out j
              rw [hx] at hset
              have cb : wr.cell? ⟨bq, x, none⟩ = some (.int .i64 (box x : Nat)) := KS.out.bl.fr.cell_ (HB.out x hxl) (fun x => x)
              obtain ⟨z, hz⟩ : ∃ z, box x = z := ⟨_, rfl⟩
              rw [hz] at cb hset
              have cs := KS.out.bl.cs Hsn.out j (by omega) x hx
              have ct := KS.out.ct (shufL_length s i) i hli _ rfl
              have ft := free_of KS.out.bt i
              have hst := KS.out.setT i z
              rw [hset] at hst
              have MS := Lib.hid hst
              have hj0 : (0 : Int) ≤ (j : Int) := by omega
              have hj16 : (j : Int) < 16 := by omega
              have hx0 : (0 : Int) ≤ (x : Int) := by omega
              have hx256 : (x : Int) < 256 := by omega
              clear hset hj hx hz hst hxl
              go_wp2
              go_roundw
              case rel => exact ⟨i + 1, by omega, by go_num, MS⟩
              case measure => simp [intOf]; omega
            · obtain rfl : i = 16 := by omega
              clear hli hi
              go_wp2
              go_meet
              exact KS
        case rest =>
          have TS := hcut
          clear hcut HT
          have hX : preR s n = if n < 14 then mixL (shufL s 16) 16 else shufL s 16 := rfl
          obtain ⟨X, hXe⟩ : ∃ X, preR s n = X := ⟨_, rfl⟩
          have hXn : X.length = 16 := by rw [← hXe]; exact preR_length s n
          have hXl : ∀ i, X.getD i 0 < 256 := by rw [← hXe]; exact preR_lt s Hsl.out n
          rw [hXe] at hX Hnx
          have HX := Lib.hid hX
          have HXn := Lib.hid hXn
          have HXl := Lib.hid hXl
          clear hX hXe hXn hXl
          obtain ⟨T, hTe⟩ : ∃ T, shufL s 16 = T := ⟨_, rfl⟩
          have hTn : T.length = 16 := by rw [← hTe]; exact shufL_length s 16
          have hTl : ∀ i, T.getD i 0 < 256 := by rw [← hTe]; exact shufL_lt s Hsl.out 16
          rw [hTe] at HX TS
          have HTn := Lib.hid hTn
          have HTl := Lib.hid hTl
          clear hTe hTn hTl
          by_cases h14 : n < 14
          · have h14I : (n : Int) < 14 := by omega
            have hX : X = mixL T 16 := by rw [HX.out, if_pos h14]
            have HXT := Lib.hid hX
            clear hX
            go_upto_block 6 with fail
            have hT0 : T = map16 (mixB T) (fun i => T.getD i 0) 0 := (map16_none _ _ T HTn.out (fun i hi => rfl)).symm
            have TS0 : Hid (BtSt w wc b s (map16 (mixB T) (fun i => T.getD i 0) 0) p3 p6 p7 pt) := by
              show BtSt w wc b s (map16 (mixB T) (fun i => T.getD i 0) 0) p3 p6 p7 pt
              rw [← hT0]
              exact TS.out
            clear hT0
            go_wp2
            go_loopw [12, 13, 14, 15, 16] (fun v12 _ _ _ _ wr => ∃ k m : Nat, Hid (k = 4 * m) ∧ m ≤ 4 ∧ v12 = .int .i64 (k : Int) ∧ Hid (BtSt w wr b s (map16 (mixB T) (fun i => T.getD i 0) k) p3 p6 p7 pt)) (fun v12 _ _ _ _ _ => 16 - (intOf v12).toNat)
            case atStart => exact ⟨0, 0, rfl, by omega, rfl, TS0⟩
            case round =>
              obtain ⟨k, m, hk, hm, rfl, KS⟩ := hrel
              clear TS0 TS
              by_cases hlm : m < 4
              · have k12 : k ≤ 12 := by have := hk.out; omega
                have g0 : (0 : Int) ≤ (k : Int) := by omega
                have g16 : (k : Int) < 16 := by omega
                have g1 : (k : Int) + 1 < 16 := by omega
                have g2 : (k : Int) + 2 < 16 := by omega
                have g3 : (k : Int) + 3 < 16 := by omega
                obtain ⟨x, hx⟩ : ∃ x, T.getD k 0 = x := ⟨_, rfl⟩
                obtain ⟨y, hy⟩ : ∃ x, T.getD (k + 1) 0 = x := ⟨_, rfl⟩
                obtain ⟨z, hz⟩ : ∃ x, T.getD (k + 2) 0 = x := ⟨_, rfl⟩
                obtain ⟨u, hu⟩ : ∃ x, T.getD (k + 3) 0 = x := ⟨_, rfl⟩
                have lx : x < 256 := by rw [← hx]; exact HTl.out _
                have ly : y < 256 := by rw [← hy]; exact HTl.out _
                have lz : z < 256 := by rw [← hz]; exact HTl.out _
                have lu : u < 256 := by rw [← hu]; exact HTl.out _
                have hL : ∀ i, i < 16 → k ≤ i → (map16 (mixB T) (fun i => T.getD i 0) k).getD i 0 = T.getD i 0 := fun i hi h => by rw [map16_at _ _ _ _ hi, if_neg (by omega)]
                have c0 := KS.out.ct (map16_length _ _ _) k (by omega) x (by rw [hL k (by omega) (by omega), hx])
                have c1 := KS.out.ct (map16_length _ _ _) (k + 1) (by omega) y (by rw [hL _ (by omega) (by omega), hy])
                have c2 := KS.out.ct (map16_length _ _ _) (k + 2) (by omega) z (by rw [hL _ (by omega) (by omega), hz])
                have c3 := KS.out.ct (map16_length _ _ _) (k + 3) (by omega) u (by rw [hL _ (by omega) (by omega), hu])
                have P : ∀ a : Nat, a < 256 → ∀ W, Calls Try.prog 14 #[.int .i64 (a : Int), .int .i64 2] W fun e w' => e = .returned (.int .i64 (mul a 2 : Nat)) ∧ W = w' := fun a ha W => rproduct_is a 2 ha (by decide) W
                have Q : ∀ a : Nat, a < 256 → ∀ W, Calls Try.prog 14 #[.int .i64 (a : Int), .int .i64 3] W fun e w' => e = .returned (.int .i64 (mul a 3 : Nat)) ∧ W = w' := fun a ha W => rproduct_is a 3 ha (by decide) W
                have px := P x lx
                have py := P y ly
                have pz := P z lz
                have pu := P u lu
                have qx := Q x lx
                have qy := Q y ly
                have qz := Q z lz
                have qu := Q u lu
                have lpx := mul_lt x 2 lx
                have lpy := mul_lt y 2 ly
                have lpz := mul_lt z 2 lz
                have lpu := mul_lt u 2 lu
                have lqx := mul_lt x 3 lx
                have lqy := mul_lt y 3 ly
                have lqz := mul_lt z 3 lz
                have lqu := mul_lt u 3 lu
                have hm0 : mixB T k = mul x 2 ^^^ mul y 3 ^^^ z ^^^ u := by
                  have := hk.out
                  unfold mixB
                  rw [show k / 4 * 4 + (k + 0) % 4 = k by omega, show k / 4 * 4 + (k + 1) % 4 = k + 1 by omega, show k / 4 * 4 + (k + 2) % 4 = k + 2 by omega, show k / 4 * 4 + (k + 3) % 4 = k + 3 by omega, hx, hy, hz, hu]
                have hm1 : mixB T (k + 1) = x ^^^ mul y 2 ^^^ mul z 3 ^^^ u := by
                  have := hk.out
                  unfold mixB
                  rw [show (k + 1) / 4 * 4 + (k + 1 + 0) % 4 = k + 1 by omega, show (k + 1) / 4 * 4 + (k + 1 + 1) % 4 = k + 2 by omega, show (k + 1) / 4 * 4 + (k + 1 + 2) % 4 = k + 3 by omega, show (k + 1) / 4 * 4 + (k + 1 + 3) % 4 = k by omega, hx, hy, hz, hu]
                  exact xr1 _ _ _ _
                have hm2 : mixB T (k + 2) = x ^^^ y ^^^ mul z 2 ^^^ mul u 3 := by
                  have := hk.out
                  unfold mixB
                  rw [show (k + 2) / 4 * 4 + (k + 2 + 0) % 4 = k + 2 by omega, show (k + 2) / 4 * 4 + (k + 2 + 1) % 4 = k + 3 by omega, show (k + 2) / 4 * 4 + (k + 2 + 2) % 4 = k by omega, show (k + 2) / 4 * 4 + (k + 2 + 3) % 4 = k + 1 by omega, hx, hy, hz, hu]
                  exact xr2 _ _ _ _
                have hm3 : mixB T (k + 3) = mul x 3 ^^^ y ^^^ z ^^^ mul u 2 := by
                  have := hk.out
                  unfold mixB
                  rw [show (k + 3) / 4 * 4 + (k + 3 + 0) % 4 = k + 3 by omega, show (k + 3) / 4 * 4 + (k + 3 + 1) % 4 = k by omega, show (k + 3) / 4 * 4 + (k + 3 + 2) % 4 = k + 1 by omega, show (k + 3) / 4 * 4 + (k + 3 + 3) % 4 = k + 2 by omega, hx, hy, hz, hu]
                  exact (xr1 _ _ _ _).symm
                have X4 : ∀ a b c d : Nat, a < 256 → b < 256 → c < 256 → d < 256 → Go.bits .xor .i64 (Go.bits .xor .i64 (Go.bits .xor .i64 (a : Int) (b : Int)) (c : Int)) (d : Int) = ((a ^^^ b ^^^ c ^^^ d : Nat) : Int) := fun a b c d ha hb hc hd => by
                  have h1 : a ^^^ b < 256 := Nat.xor_lt_two_pow (n := 8) ha hb
                  have h2 : a ^^^ b ^^^ c < 256 := Nat.xor_lt_two_pow (n := 8) h1 hc
                  rw [xorI a b (by omega) (by omega), xorI _ c (by omega) (by omega), xorI _ d (by omega) (by omega)]
                obtain ⟨x2, ex2⟩ : ∃ v, mul x 2 = v := ⟨_, rfl⟩
                obtain ⟨y2, ey2⟩ : ∃ v, mul y 2 = v := ⟨_, rfl⟩
                obtain ⟨z2, ez2⟩ : ∃ v, mul z 2 = v := ⟨_, rfl⟩
                obtain ⟨u2, eu2⟩ : ∃ v, mul u 2 = v := ⟨_, rfl⟩
                obtain ⟨x3, ex3⟩ : ∃ v, mul x 3 = v := ⟨_, rfl⟩
                obtain ⟨y3, ey3⟩ : ∃ v, mul y 3 = v := ⟨_, rfl⟩
                obtain ⟨z3, ez3⟩ : ∃ v, mul z 3 = v := ⟨_, rfl⟩
                obtain ⟨u3, eu3⟩ : ∃ v, mul u 3 = v := ⟨_, rfl⟩
                rw [ex2] at px lpx hm0
                rw [ey2] at py lpy hm1
                rw [ez2] at pz lpz hm2
                rw [eu2] at pu lpu hm3
                rw [ex3] at qx lqx hm3
                rw [ey3] at qy lqy hm0
                rw [ez3] at qz lqz hm1
                rw [eu3] at qu lqu hm2
                have e0 := X4 x2 y3 z u lpx lqy lz lu
                have e1 := X4 x y2 z3 u lx lpy lqz lu
                have e2 := X4 x y z2 u3 lx ly lpz lqu
                have e3 := X4 x3 y z u2 lqx ly lz lpu
                rw [← hm0] at e0
                rw [← hm1] at e1
                rw [← hm2] at e2
                rw [← hm3] at e3
                have E0 := Lib.hid e0
                have E1 := Lib.hid e1
                have E2 := Lib.hid e2
                have E3 := Lib.hid e3
                have PX := Lib.hid px
                have PY := Lib.hid py
                have PZ := Lib.hid pz
                have PU := Lib.hid pu
                have QX := Lib.hid qx
                have QY := Lib.hid qy
                have QZ := Lib.hid qz
                have QU := Lib.hid qu
                have n0 := map16_next (mixB T) (fun i => T.getD i 0) k (by omega)
                have n1 := map16_next (mixB T) (fun i => T.getD i 0) (k + 1) (by omega)
                have n2 := map16_next (mixB T) (fun i => T.getD i 0) (k + 2) (by omega)
                have n3 := map16_next (mixB T) (fun i => T.getD i 0) (k + 3) (by omega)
                have N0 := Lib.hid n0
                have N1 := Lib.hid n1
                have N2 := Lib.hid n2
                have N3 := Lib.hid n3
                clear n0 n1 n2 n3 px py pz pu qx qy qz qu e0 e1 e2 e3 hm0 hm1 hm2 hm3 ex2 ey2 ez2 eu2 ex3 ey3 ez3 eu3 X4 P Q lpx lpy lpz lpu lqx lqy lqz lqu lx ly lz lu hx hy hz hu hL
                obtain ⟨v0, hv0⟩ : ∃ v, mixB T k = v := ⟨_, rfl⟩
                obtain ⟨v1, hv1⟩ : ∃ v, mixB T (k + 1) = v := ⟨_, rfl⟩
                obtain ⟨v2, hv2⟩ : ∃ v, mixB T (k + 2) = v := ⟨_, rfl⟩
                obtain ⟨v3, hv3⟩ : ∃ v, mixB T (k + 3) = v := ⟨_, rfl⟩
                rw [hv0] at E0 N0
                rw [hv1] at E1 N1
                rw [hv2] at E2 N2
                rw [hv3] at E3 N3
                clear hv0 hv1 hv2 hv3
                go_upto_region 18 with fail
                go_region
                have ft := free_of KS.out.drew.bt
                go_upto_region 20 with (go_at_call 14; first
                  | ((with_reducible show Calls _ _ #[Value.int .i64 (x : Int), Value.int .i64 2] _ _); refine (PX.out _).mono ?_; rintro e w' ⟨rfl, rfl⟩)
                  | ((with_reducible show Calls _ _ #[Value.int .i64 (y : Int), Value.int .i64 3] _ _); refine (QY.out _).mono ?_; rintro e w' ⟨rfl, rfl⟩))
                rw [E0.out]
                have s0 := (KS.out.setT k v0).drew
                rw [N0.out] at s0
                generalize (wr.setCell ⟨pt, k, none⟩ (.int .i64 (v0 : Int))).drew = V2 at *
                have S0 := Lib.hid s0
                clear c0 c1 c2 c3 ft s0
                have ft := free_of S0.out.bt
                have ct := S0.out.ct (map16_length _ _ _) (k + 1) (by omega) _ rfl
                go_upto_region 21 with (go_at_call 14; first
                  | ((with_reducible show Calls _ _ #[Value.int .i64 (y : Int), Value.int .i64 2] _ _); refine (PY.out _).mono ?_; rintro e w' ⟨rfl, rfl⟩)
                  | ((with_reducible show Calls _ _ #[Value.int .i64 (z : Int), Value.int .i64 3] _ _); refine (QZ.out _).mono ?_; rintro e w' ⟨rfl, rfl⟩))
                rw [E1.out]
                have s1 := S0.out.setT (k + 1) v1
                rw [N1.out] at s1
                generalize V2.setCell ⟨pt, k + 1, none⟩ (.int .i64 (v1 : Int)) = V3 at *
                have S1 := Lib.hid s1
                clear ct ft s1
                have ft := free_of S1.out.bt
                have ct := S1.out.ct (map16_length _ _ _) (k + 2) (by omega) _ rfl
                go_upto_region 22 with (go_at_call 14; first
                  | ((with_reducible show Calls _ _ #[Value.int .i64 (z : Int), Value.int .i64 2] _ _); refine (PZ.out _).mono ?_; rintro e w' ⟨rfl, rfl⟩)
                  | ((with_reducible show Calls _ _ #[Value.int .i64 (u : Int), Value.int .i64 3] _ _); refine (QU.out _).mono ?_; rintro e w' ⟨rfl, rfl⟩))
                rw [E2.out]
                have s2 := S1.out.setT (k + 2) v2
                rw [N2.out] at s2
                generalize V3.setCell ⟨pt, k + 2, none⟩ (.int .i64 (v2 : Int)) = V4 at *
                have S2 := Lib.hid s2
                clear ct ft s2
                have ft := free_of S2.out.bt
                have ct := S2.out.ct (map16_length _ _ _) (k + 3) (by omega) _ rfl
                go_upto_region 17 with (go_at_call 14; first
                  | ((with_reducible show Calls _ _ #[Value.int .i64 (x : Int), Value.int .i64 3] _ _); refine (QX.out _).mono ?_; rintro e w' ⟨rfl, rfl⟩)
                  | ((with_reducible show Calls _ _ #[Value.int .i64 (u : Int), Value.int .i64 2] _ _); refine (PU.out _).mono ?_; rintro e w' ⟨rfl, rfl⟩))
                rw [E3.out]
                have s3 := S2.out.setT (k + 3) v3
                rw [N3.out] at s3
                have S3 := Lib.hid s3
                clear ct ft s3
                go_wp2
                go_roundw
                case rel => exact ⟨k + 4, m + 1, by show _ = _; have := hk.out; omega, by omega, by go_num, S3⟩
                case measure => simp [intOf]; omega
              · obtain rfl : m = 4 := by omega
                obtain rfl : k = 16 := hk.out
                have hX : map16 (mixB T) (fun i => T.getD i 0) 16 = X := by
                  rw [HXT.out]
                  exact map16_all _ _ _ (mixL_length _ _) (fun i hi => by simp [mixL, List.getD, hi])
                rw [hX] at KS
                have XS := KS
                clear hX KS hlm hm
                go_upto_block 8 with fail
                have hs0 : s = map16 (fun i => X.getD i 0 ^^^ W.getD (16 * n + i) 0) (fun i => s.getD i 0) 0 := (map16_none _ _ s Hsn.out (fun i hi => rfl)).symm
                have hXS := XS.out
                rw [hs0] at hXS
                have XS0 : Hid (BtSt w wr b (map16 (fun i => X.getD i 0 ^^^ W.getD (16 * n + i) 0) (fun i => s.getD i 0) 0) X p3 p6 p7 pt) := by
                  show BtSt w wr b (map16 (fun i => X.getD i 0 ^^^ W.getD (16 * n + i) 0) (fun i => s.getD i 0) 0) X p3 p6 p7 pt
                  rw [← hs0]
                  exact XS.out
                clear hs0 hXS
                go_wp2
                go_loopw [17] (fun v17 wr => ∃ i : Nat, i ≤ 16 ∧ v17 = .int .i64 (i : Int) ∧ Hid (BtSt w wr b (map16 (fun i => X.getD i 0 ^^^ W.getD (16 * n + i) 0) (fun i => s.getD i 0) i) X p3 p6 p7 pt)) (fun v17 _ => 16 - (intOf v17).toNat)
                case atStart => exact ⟨0, by omega, rfl, XS0⟩
                case round =>
                  obtain ⟨i, hi, rfl, KS⟩ := hrel
                  clear XS0 XS
                  by_cases hli : i < 16
                  · have hlI : (i : Int) < 16 := by omega
                    have hi0 : (0 : Int) ≤ (i : Int) := by omega
                    obtain ⟨q, hq⟩ : ∃ q, 16 * n + i = q := ⟨_, rfl⟩
                    have eq : IntKind.i64.wrap (IntKind.i64.wrap (16 * (n : Int)) + (i : Int)) = (q : Int) := by
                      rw [IntWalk.i64_in (16 * (n : Int)) (by omega), IntWalk.i64_in _ (by omega)]
                      omega
                    have q0 : (0 : Int) ≤ (q : Int) := by omega
                    have q240 : (q : Int) < 240 := by omega
                    obtain ⟨x, hx⟩ : ∃ x, X.getD i 0 = x := ⟨_, rfl⟩
                    obtain ⟨y, hy⟩ : ∃ y, W.getD q 0 = y := ⟨_, rfl⟩
                    have hxl : x < 256 := by rw [← hx]; exact HXl.out i
                    have hyl : y < 256 := by rw [← hy]; exact HWl.out q
                    have ct := KS.out.ct HXn.out i hli x hx
                    have ck : wr.cell? ⟨kq, q, none⟩ = some (.int .i64 (y : Int)) := KS.out.bl.fr.cell_ ((HK.out q (by omega)).trans (by rw [hy])) (fun x => x)
                    have cs := KS.out.bl.cs (map16_length _ _ _) i hli _ rfl
                    have f7 := free_of KS.out.bl.b7 i
                    have hz := xorI x y (by omega) (by omega)
                    have hset := KS.out.setS i (x ^^^ y)
                    have hnx := map16_next (fun i => X.getD i 0 ^^^ W.getD (16 * n + i) 0) (fun i => s.getD i 0) i hli
                    rw [hx, hq, hy] at hnx
                    rw [hnx] at hset
                    have MS := Lib.hid hset
                    have HZ := Lib.hid hz
                    clear hz hset hnx hx hy hxl hyl hq
                    go_upto_region 26 with fail
                    go_region
                    all_goals (try rw [HZ.out])
                    all_goals go_wp2
                    all_goals go_roundw
                    all_goals first
                      | exact ⟨i + 1, by omega, by go_num, MS.out.drew⟩
                      | (simp [intOf]; omega)
                  · obtain rfl : i = 16 := by omega
                    have e : map16 (fun i => X.getD i 0 ^^^ W.getD (16 * n + i) 0) (fun i => s.getD i 0) 16 = rndN W b (r + 1) := by
                      rw [Hnx.out]
                      exact map16_all _ _ _ (xorL_length _ _ _) (fun i hi => by rw [xorL_at _ _ i hi, keyL_get _ _ i hi])
                    rw [e] at KS
                    clear hli hi e
                    go_wp2
                    go_roundw
                    case rel => exact ⟨r + 1, n + 1, by show _ = _; have := hn.out; omega, by omega, by go_num, KS.out.bl⟩
                    case measure => simp [intOf]; omega
          · have h14I : ¬ ((n : Int) < 14) := by omega
            have hX : X = T := by rw [HX.out, if_neg h14]
            have XS := TS
            rw [← hX] at XS
            clear hX TS
            go_upto_block 8 with fail
            have hs0 : s = map16 (fun i => X.getD i 0 ^^^ W.getD (16 * n + i) 0) (fun i => s.getD i 0) 0 := (map16_none _ _ s Hsn.out (fun i hi => rfl)).symm
            have hXS := XS.out
            rw [hs0] at hXS
            have XS0 : Hid (BtSt w wc b (map16 (fun i => X.getD i 0 ^^^ W.getD (16 * n + i) 0) (fun i => s.getD i 0) 0) X p3 p6 p7 pt) := by
              show BtSt w wc b (map16 (fun i => X.getD i 0 ^^^ W.getD (16 * n + i) 0) (fun i => s.getD i 0) 0) X p3 p6 p7 pt
              rw [← hs0]
              exact XS.out
            clear hs0 hXS
            go_wp2
            go_loopw [17] (fun v17 wr => ∃ i : Nat, i ≤ 16 ∧ v17 = .int .i64 (i : Int) ∧ Hid (BtSt w wr b (map16 (fun i => X.getD i 0 ^^^ W.getD (16 * n + i) 0) (fun i => s.getD i 0) i) X p3 p6 p7 pt)) (fun v17 _ => 16 - (intOf v17).toNat)
            case atStart => exact ⟨0, by omega, rfl, XS0⟩
            case round =>
              obtain ⟨i, hi, rfl, KS⟩ := hrel
              clear XS0 XS
              by_cases hli : i < 16
              · have hlI : (i : Int) < 16 := by omega
                have hi0 : (0 : Int) ≤ (i : Int) := by omega
                obtain ⟨q, hq⟩ : ∃ q, 16 * n + i = q := ⟨_, rfl⟩
                have eq : IntKind.i64.wrap (IntKind.i64.wrap (16 * (n : Int)) + (i : Int)) = (q : Int) := by
                  rw [IntWalk.i64_in (16 * (n : Int)) (by omega), IntWalk.i64_in _ (by omega)]
                  omega
                have q0 : (0 : Int) ≤ (q : Int) := by omega
                have q240 : (q : Int) < 240 := by omega
                obtain ⟨x, hx⟩ : ∃ x, X.getD i 0 = x := ⟨_, rfl⟩
                obtain ⟨y, hy⟩ : ∃ y, W.getD q 0 = y := ⟨_, rfl⟩
                have hxl : x < 256 := by rw [← hx]; exact HXl.out i
                have hyl : y < 256 := by rw [← hy]; exact HWl.out q
                have ct := KS.out.ct HXn.out i hli x hx
                have ck : wr.cell? ⟨kq, q, none⟩ = some (.int .i64 (y : Int)) := KS.out.bl.fr.cell_ ((HK.out q (by omega)).trans (by rw [hy])) (fun x => x)
                have cs := KS.out.bl.cs (map16_length _ _ _) i hli _ rfl
                have f7 := free_of KS.out.bl.b7 i
                have hz := xorI x y (by omega) (by omega)
                have hset := KS.out.setS i (x ^^^ y)
                have hnx := map16_next (fun i => X.getD i 0 ^^^ W.getD (16 * n + i) 0) (fun i => s.getD i 0) i hli
                rw [hx, hq, hy] at hnx
                rw [hnx] at hset
                have MS := Lib.hid hset
                have HZ := Lib.hid hz
                clear hz hset hnx hx hy hxl hyl hq
                go_upto_region 26 with fail
                go_region
                all_goals (try rw [HZ.out])
                all_goals go_wp2
                all_goals go_roundw
                all_goals first
                  | exact ⟨i + 1, by omega, by go_num, MS.out.drew⟩
                  | (simp [intOf]; omega)
              · obtain rfl : i = 16 := by omega
                have e : map16 (fun i => X.getD i 0 ^^^ W.getD (16 * n + i) 0) (fun i => s.getD i 0) 16 = rndN W b (r + 1) := by
                  rw [Hnx.out]
                  exact map16_all _ _ _ (xorL_length _ _ _) (fun i hi => by rw [xorL_at _ _ i hi, keyL_get _ _ i hi])
                rw [e] at KS
                clear hli hi e
                go_wp2
                go_roundw
                case rel => exact ⟨r + 1, n + 1, by show _ = _; have := hn.out; omega, by omega, by go_num, KS.out.bl⟩
                case measure => simp [intOf]; omega
      · obtain rfl : r = 14 := by omega
        obtain rfl : n = 15 := hn.out
        obtain ⟨R, hR⟩ : ∃ R, rndN W b 14 = R := ⟨_, rfl⟩
        have hbk : R = blockL W b := hR.symm
        have hRn : R.length = 16 := by rw [← hR]; exact rndN_length W b 14
        have hRl : ∀ i, R.getD i 0 < 256 := by rw [← hR]; exact rndN_lt W b HWl.out Hbl.out 14
        rw [hR] at KS
        have Hbk := Lib.hid hbk
        have HRn := Lib.hid hRn
        have HRl := Lib.hid hRl
        clear hR hbk hRn hRl hlt hr
        go_upto_block 10 with fail
        show Code.wp _ _ _ _ (wr.alloc (.cells (u8s (List.replicate 16 0)) 22))
        have hz : (List.replicate 16 0 : List Nat) = map16 (fun i => R.getD i 0) (fun _ => 0) 0 := (map16_none _ _ _ rfl (fun i hi => rep0 i hi)).symm
        have hbn := heap_alloc_new wr (.cells (u8s (List.replicate 16 0)) 22)
        have hs := KS.out.fresh (w' := wr.alloc (.cells (u8s (List.replicate 16 0)) 22)) ((Fr.refl _ _).alloc _)
        have hn3 : p3 ≠ wr.heap.size := by have := lt_of_block KS.out.b3; omega
        have hn6 : p6 ≠ wr.heap.size := by have := lt_of_block KS.out.b6; omega
        have hn7 : p7 ≠ wr.heap.size := by have := lt_of_block KS.out.b7; omega
        have hl18 : w.heap.size ≤ wr.heap.size := KS.out.fr.size
        generalize wr.heap.size = p18 at *
        generalize wr.alloc (.cells (u8s (List.replicate 16 0)) 22) = V1 at *
        rw [hz] at hbn
        have B18 := Lib.hid hbn
        have S0 := Lib.hid hs
        have HL := Lib.hid hl18
        clear hz hbn hs hl18 KS
        go_wp2
        go_loopw [19] (fun v19 wr => ∃ i : Nat, i ≤ 16 ∧ v19 = .int .i64 (i : Int) ∧ Hid (BlSt w wr b R p3 p6 p7) ∧ Hid (wr.heap[p18]? = some (.cells (u8s (map16 (fun i => R.getD i 0) (fun _ => 0) i)) 22 (0, 0)))) (fun v19 _ => 16 - (intOf v19).toNat)
        case atStart => exact ⟨0, by omega, rfl, S0, B18⟩
        case round =>
          obtain ⟨i, hi, rfl, KS, KB⟩ := hrel
          clear S0 B18
          by_cases hli : i < 16
          · have hlI : (i : Int) < 16 := by omega
            have hi0 : (0 : Int) ≤ (i : Int) := by omega
            obtain ⟨x, hx⟩ : ∃ x, R.getD i 0 = x := ⟨_, rfl⟩
            have hxl : x < 256 := by rw [← hx]; exact HRl.out i
            have cs := KS.out.cs HRn.out i hli x hx
            have co : wr.cell? ⟨p18, i, none⟩ = some (.int .u8 ((map16 (fun i => R.getD i 0) (fun _ => 0) i).getD i 0 : Nat)) := (cell_of KB.out i).trans (u8s_get _ _ (by rw [map16_length]; exact hli))
            have fo := free_of KB.out i
            have hx0 : (0 : Int) ≤ (x : Int) := by omega
            have hx256 : (x : Int) < 256 := by omega
            have hnx := map16_next (fun i => R.getD i 0) (fun _ => 0) i hli
            rw [hx] at hnx
            have hb := block_setCell KB.out (.int .u8 (x : Int)) (off := i)
            rw [u8s_set, hnx] at hb
            have hfr := (Fr.refl (fun k => k = p18) wr).setCell ⟨p18, i, none⟩ (.int .u8 (x : Int)) (.inl rfl)
            have MS := Lib.hid (KS.out.other hfr hn3 hn6 hn7 HL.out)
            have MB := Lib.hid hb
            have hm8 : (x : Int) % 256 = (x : Int) := by omega
            clear hnx hb hfr hx hxl
            go_wp2
            go_roundw
            case rel => exact ⟨i + 1, by omega, by go_num, MS, MB⟩
            case measure => simp [intOf]; omega
          · obtain rfl : i = 16 := by omega
            have e : map16 (fun i => R.getD i 0) (fun _ => 0) 16 = R := map16_all _ _ _ HRn.out (fun i hi => rfl)
            rw [e] at KB
            have hb4 := block_setRow (cs := u8s R) KS.out.b6
            have R1 := Lib.hid (ld16 KB.out HRn.out)
            have S1 := Lib.hid (st16 KS.out.b6 (List.length_replicate ..) HRn.out)
            have R3 := Lib.hid (ld16 hb4 HRn.out)
            have MF := Lib.hid (fr_setRow KS.out.fr p6 (u8s R) (.inr KS.out.l6))
            clear e hb4 hli hi
            go_wp2_with (first | refine wpList_load_arr rfl 22 _ rfl rfl R1.out ?_ | refine wpList_store_arr rfl 22 _ _ rfl rfl rfl S1.out ?_)
            refine bodyPost_ret (results_cell Try.results10 rfl R3.out) rfl ?_
            exact ⟨by rw [Hbk.out], MF.out⟩
end Go.Proofs.Ytmcenocmilhekaa
