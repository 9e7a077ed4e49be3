/- Walks of the reference of layer 3 (rc): direct bits, parts, the beginning and the end. -/
import Derived.Test.YtpddocehjljofaaRef2
namespace Go.Proofs.Ytpddocehjljofaa
set_option linter.unusedVariables false
open Go.RowKit Go.My

set_option maxHeartbeats 2000000 in
set_option maxRecDepth 100000 in
theorem ref_direct (r : Value) (a : Rc.A) (bit : Nat) (w : World) (h : RefA w r a) (hg : a.Good) (hk : a.k ≤ 100000000) (hbit : bit < 2) :
    Calls Try.prog 16 #[r, .int .i64 (bit : Int)] w fun e w' => ∃ r', e = .returned r' ∧ RefA w' r' (a.direct bit) ∧ Fr (fun _ => False) w w' ∧ (∀ g, rowOf r' = some g → rowOf r = some g ∨ w.heap.size ≤ g) := by
  obtain ⟨p, cap, L, S, hown, rfl, hrel⟩ := h.ex
  have hS := hrel.s
  have hl := hrel.l
  have hShi : S < 4294967296 := by rw [hS]; exact hg.hi
  have hSlo : 16777216 ≤ S := by rw [hS]; exact hg.lo
  obtain ⟨B, hB⟩ : ∃ B, S / 2 = B := ⟨_, rfl⟩
  have hBi : (S : Int) / 2 = (B : Int) := by omega
  have Hown := Lib.hid hown
  have Hrel := Lib.hid hrel
  have HB := Lib.hid hB
  have Hl := Lib.hid hl
  have Hk := Lib.hid hk
  have HSs := Lib.hid hS
  have Hhi := Lib.hid hShi
  have Hlo := Lib.hid hSlo
  have Hg := Lib.hid hg
  have HBi := Lib.hid hBi
  have hS0 : 0 ≤ (S : Int) := by omega
  have hS1 : (S : Int) < 4294967296 := by omega
  have hB1 : (B : Int) < 4294967296 := by omega
  have HSS : Hid (1 ≤ B ∧ B < 4294967296) := ⟨by omega, by omega⟩
  clear h hg hS hl hown hrel hB hk hShi hSlo
  by_cases h0 : bit = 0
  · have h0' : ((bit : Int) == 1) = false := by simp [h0]
    have hab : a.direct bit = (a.sub 0 B).widen := by unfold Rc.A.direct; rw [if_pos h0, ← HSs.out, HB.out]
    have hrl : Rc.RelL L B (a.sub 0 B) := ⟨by rw [Hrel.out.v]; rfl, by rw [Hl.out]; rfl, rfl⟩
    have Hab := Lib.hid hab
    have Hrl := Lib.hid hrl
    have Hlen : Hid (0 < L.length ∧ L.length ≤ 900000000) := ⟨by have := Hl.out; omega, by have := Hl.out; have := Hk.out; omega⟩
    have HP : Hid (∀ g, (Value.slice p L.length cap).ownBlock = some g → rowOf (.agg #[.slice p L.length cap, .int .u64 (S : Int)]) = some g ∨ w.heap.size ≤ g) := (fun g h => .inl h)
    clear h0 hab hrl
    go_enter Try.func16, Try.ntmps16
    go_upto_region 4 with fail
    obtain ⟨W, hW⟩ : ∃ W, (w.alloc (.cells #[.slice p L.length cap, .int .u64 ((B : Int))] 29)).alloc (.cells #[.slice none 0 0, .int .u64 0] 29) = W := ⟨_, rfl⟩
    have hz := heap_alloc_new (w.alloc (.cells #[.slice p L.length cap, .int .u64 ((B : Int))] 29)) (.cells #[.slice none 0 0, .int .u64 0] 29)
    rw [hW, show (w.alloc (.cells #[.slice p L.length cap, .int .u64 ((B : Int))] 29)).heap.size = w.heap.size + 1 by simp] at hz
    have hf : Fr (fun _ => False) w W := by rw [← hW]; exact ((Fr.refl _ _).alloc _).alloc _
    have hb0 : W.heap[w.heap.size]? = some (.cells #[.slice p L.length cap, .int .u64 ((B : Int))] 29 (0, 0)) := by rw [← hW]; exact block_alloc (heap_alloc_new w _)
    have ho0 : W.ownsRow 0 5 1 (.slice p L.length cap) L.length (bytesV L) := own_keep Hown.out hf (fun _ _ h => h)
    rw [hW]
    have Hz := Lib.hid hz
    have Hf := Lib.hid hf
    have Hb := Lib.hid hb0
    have Ho := Lib.hid ho0
    clear hW hz hf hb0 ho0
    clear hBi
    have g0 : W.cell? ⟨w.heap.size, 0, none⟩ = some (.slice p L.length cap) := (cell_of Hb.out 0).trans rfl
    have g1 : W.cell? ⟨w.heap.size, 1, none⟩ = some (.int .u64 ((B : Int))) := (cell_of Hb.out 1).trans rfl
    have hwd := ref_widen p cap L B W Ho.out Hlen.out.1 Hlen.out.2 HSS.out.1 HSS.out.2
    have Hwd := Lib.hid hwd
    clear hwd
    go_wp2_with ((go_at_call 65; refine Hwd.out.mono ?_; rintro e w3 ⟨v3, x3, rfl, h3, f3, g3⟩; obtain ⟨q3, c3, rfl⟩ := own_any h3.own; obtain rfl := h3.val; have HG3 : Hid (∀ g, (Value.slice q3 _ c3).ownBlock = some g → rowOf (.agg #[.slice p L.length cap, .int .u64 (S : Int)]) = some g ∨ w.heap.size ≤ g) := (fun g hg => (g3 g hg).elim (HP.out g) (fun h => .inr (Nat.le_trans Hf.out.size h))); have hz3 := f3.keep Hz.out (fun h => h); have HA := Lib.hid ((RefV.relA h3 (Hrl.out.widenN 3)).store2 hz3 (.slice q3 (Rc.Lwiden 3 (L, B)).1.length c3) (.int .u64 ((Rc.Lwiden 3 (L, B)).2 : Int))); have HF := Lib.hid (Hf.out.trans f3 (fun _ h => .inl h)); have z0 : w3.cell? ⟨w.heap.size + 1, 0, none⟩ = some (.slice none 0 0) := (cell_of hz3 0).trans rfl; have z1 : w3.cell? ⟨w.heap.size + 1, 1, none⟩ = some (.int .u64 0) := (cell_of hz3 1).trans rfl; have zf0 := free_of hz3 0; have zf1 := free_of hz3 1; clear h3 f3 hz3 g3))
    refine bodyPost_ret (v := .agg #[.slice q3 (Rc.Lwiden 3 (L, B)).1.length c3, .int .u64 ((Rc.Lwiden 3 (L, B)).2 : Int)]) ?_ rfl ?_
    · simp [results, Try.results16, go_sem, z0, z1]
    · exact ⟨_, rfl, by rw [Hab.out]; exact HA.out, (HF.out.setCell _ _ (.inr (by simp))).setCell _ _ (.inr (by simp)), HG3.out⟩
  · have h0' : ((bit : Int) == 1) = true := by simp; omega
    have hab : a.direct bit = (a.sub B B).widen := by unfold Rc.A.direct; rw [if_neg h0, ← HSs.out, HB.out]
    have Hab := Lib.hid hab
    have HD : Hid (B ≤ 1000000000000) := by show _ ≤ _; have := HSS.out; omega
    have HDv : Hid ((B : Int) = (B : Int)) := rfl
    clear h0 hab
    go_enter Try.func16, Try.ntmps16
    go_upto_region 3 with fail
    obtain ⟨W, hW⟩ : ∃ W, (w.alloc (.cells #[.slice p L.length cap, .int .u64 ((B : Int))] 29)).alloc (.cells #[.slice none 0 0, .int .u64 0] 29) = W := ⟨_, rfl⟩
    have hz := heap_alloc_new (w.alloc (.cells #[.slice p L.length cap, .int .u64 ((B : Int))] 29)) (.cells #[.slice none 0 0, .int .u64 0] 29)
    rw [hW, show (w.alloc (.cells #[.slice p L.length cap, .int .u64 ((B : Int))] 29)).heap.size = w.heap.size + 1 by simp] at hz
    have hf : Fr (fun _ => False) w W := by rw [← hW]; exact ((Fr.refl _ _).alloc _).alloc _
    have hb0 : W.heap[w.heap.size]? = some (.cells #[.slice p L.length cap, .int .u64 ((B : Int))] 29 (0, 0)) := by rw [← hW]; exact block_alloc (heap_alloc_new w _)
    have ho0 : W.ownsRow 0 5 1 (.slice p L.length cap) L.length (bytesV L) := own_keep Hown.out hf (fun _ _ h => h)
    rw [hW]
    have Hz := Lib.hid hz
    have Hf := Lib.hid hf
    have Hb := Lib.hid hb0
    have Ho := Lib.hid ho0
    clear hW hz hf hb0 ho0
    clear hBi
    have hadd := ref_add p cap L B W Ho.out (by have := Hl.out; omega) (by have := Hl.out; have := Hk.out; omega) (by have := HD.out; omega)
    have Hadd := Lib.hid hadd
    have g0 : W.cell? ⟨w.heap.size, 0, none⟩ = some (.slice p L.length cap) := (cell_of Hb.out 0).trans rfl
    have g1 : W.cell? ⟨w.heap.size, 1, none⟩ = some (.int .u64 ((B : Int))) := (cell_of Hb.out 1).trans rfl
    clear hadd
    go_upto_region 4 with (go_at_call 64; refine Hadd.out.mono ?_; rintro e w2 ⟨v2, X, rfl, hX1, hX2, hX3, f2, g2⟩; obtain ⟨q2, c2, rfl⟩ := own_any hX1; have HP : Hid (∀ g, (Value.slice q2 X.length c2).ownBlock = some g → rowOf (.agg #[.slice p L.length cap, .int .u64 (S : Int)]) = some g ∨ w.heap.size ≤ g) := (fun g hg => .inr (Nat.le_trans Hf.out.size (g2 g hg))); have HX1 := Lib.hid hX1; have HX2 := Lib.hid hX2; have HX3 := Lib.hid hX3; have Hf2 := Lib.hid (Hf.out.trans f2 (fun _ h => .inl h)); have Hz2 := Lib.hid (f2.keep Hz.out (fun h => h)); have Hb2 := Lib.hid (f2.keep Hb.out (fun h => h)); have k0 : w2.cell? ⟨w.heap.size, 0, none⟩ = some (.slice p L.length cap) := (cell_of Hb2.out 0).trans rfl; have k1 : w2.cell? ⟨w.heap.size, 1, none⟩ = some (.int .u64 ((B : Int))) := (cell_of Hb2.out 1).trans rfl; have kf0 := free_of Hb2.out 0; have kf1 := free_of Hb2.out 1; clear hX1 hX2 hX3 f2 g2)
    obtain ⟨W3, hW3⟩ : ∃ W3, w2.setCell ⟨w.heap.size, 0, none⟩ (.slice q2 X.length c2) = W3 := ⟨_, rfl⟩
    have hb3 : W3.heap[w.heap.size]? = some (.cells #[.slice q2 X.length c2, .int .u64 ((B : Int))] 29 (0, 0)) := by
      rw [← hW3]
      have h1 := block_setCell Hb2.out (off := 0) (.slice q2 X.length c2)
      simpa using h1
    have hz3 : W3.heap[w.heap.size + 1]? = some (.cells #[.slice none 0 0, .int .u64 0] 29 (0, 0)) := by
      rw [← hW3]
      exact block_setCell_other Hz2.out (by omega) _
    have ho3 : W3.ownsRow 0 5 1 (.slice q2 X.length c2) X.length (bytesV X) := by
      rw [← hW3]
      refine own_same HX1.out fun g hg => ?_
      obtain ⟨cur, hc⟩ := own_ty HX1.out hg
      have hne := ne_of_ty hc Hb2.out (by decide)
      rw [Below.heap_setCell _ _ _ _ hne]
    have hf3 : Fr (fun _ => False) w W3 := by rw [← hW3]; exact Hf2.out.setCell _ _ (.inr (Nat.le_refl _))
    rw [hW3]
    have Hb3 := Lib.hid hb3
    have Hz3 := Lib.hid hz3
    have Ho3 := Lib.hid ho3
    have Hf3 := Lib.hid hf3
    clear hW3 hb3 hz3 ho3 hf3 k0 k1 kf0 kf1 Hb2 Hz2 Hf2 HX1 Hadd g0 g1 Hb Hz Hf Ho
    have hrl : Rc.RelL X B (a.sub B B) := Hrel.out.sub Hg.out.fits (by rw [← HSs.out]; have := HB.out; omega) HSS.out.1 HX2.out HX3.out
    have Hrl := Lib.hid hrl
    have Hlen : Hid (0 < X.length ∧ X.length ≤ 900000000) := ⟨by have := HX2.out; have := Hl.out; omega, by have := HX2.out; have := Hl.out; have := Hk.out; omega⟩
    clear hrl HX2 HX3
    have g0 : W3.cell? ⟨w.heap.size, 0, none⟩ = some (.slice q2 X.length c2) := (cell_of Hb3.out 0).trans rfl
    have g1 : W3.cell? ⟨w.heap.size, 1, none⟩ = some (.int .u64 ((B : Int))) := (cell_of Hb3.out 1).trans rfl
    have hwd := ref_widen q2 c2 X B W3 Ho3.out Hlen.out.1 Hlen.out.2 HSS.out.1 HSS.out.2
    have Hwd := Lib.hid hwd
    clear hwd
    go_wp2_with ((go_at_call 65; refine Hwd.out.mono ?_; rintro e w3 ⟨v3, x3, rfl, h3, f3, g3⟩; obtain ⟨q3, c3, rfl⟩ := own_any h3.own; obtain rfl := h3.val; have HG3 : Hid (∀ g, (Value.slice q3 _ c3).ownBlock = some g → rowOf (.agg #[.slice p L.length cap, .int .u64 (S : Int)]) = some g ∨ w.heap.size ≤ g) := (fun g hg => (g3 g hg).elim (HP.out g) (fun h => .inr (Nat.le_trans Hf3.out.size h))); have hz3 := f3.keep Hz3.out (fun h => h); have HA := Lib.hid ((RefV.relA h3 (Hrl.out.widenN 3)).store2 hz3 (.slice q3 (Rc.Lwiden 3 (X, B)).1.length c3) (.int .u64 ((Rc.Lwiden 3 (X, B)).2 : Int))); have HF := Lib.hid (Hf3.out.trans f3 (fun _ h => .inl h)); have z0 : w3.cell? ⟨w.heap.size + 1, 0, none⟩ = some (.slice none 0 0) := (cell_of hz3 0).trans rfl; have z1 : w3.cell? ⟨w.heap.size + 1, 1, none⟩ = some (.int .u64 0) := (cell_of hz3 1).trans rfl; have zf0 := free_of hz3 0; have zf1 := free_of hz3 1; clear h3 f3 hz3 g3))
    refine bodyPost_ret (v := .agg #[.slice q3 (Rc.Lwiden 3 (X, B)).1.length c3, .int .u64 ((Rc.Lwiden 3 (X, B)).2 : Int)]) ?_ rfl ?_
    · simp [results, Try.results16, go_sem, z0, z1]
    · exact ⟨_, rfl, by rw [Hab.out]; exact HA.out, (HF.out.setCell _ _ (.inr (by simp))).setCell _ _ (.inr (by simp)), HG3.out⟩

set_option maxHeartbeats 2000000 in
set_option maxRecDepth 100000 in
theorem ref_part (r : Value) (a : Rc.A) (start size total : Nat) (w : World) (h : RefA w r a) (hg : a.Good) (hk : a.k ≤ 100000000) (hx : Rc.PtOk start size total) :
    Calls Try.prog 19 #[r, .int .u64 (start : Int), .int .u64 (size : Int), .int .u64 (total : Int)] w fun e w' => ∃ r', e = .returned r' ∧ RefA w' r' (a.part start size total) ∧ Fr (fun _ => False) w w' ∧ (∀ g, rowOf r' = some g → rowOf r = some g ∨ w.heap.size ≤ g) := by
  obtain ⟨p, cap, L, S, hown, rfl, hrel⟩ := h.ex
  have hS := hrel.s
  have hl := hrel.l
  have hShi : S < 4294967296 := by rw [hS]; exact hg.hi
  have hSlo : 16777216 ≤ S := by rw [hS]; exact hg.lo
  have hpi := Rc.part_in hSlo hx
  have ht : 1 ≤ (total : Int) := by have := hx.one; have := hx.in_; omega
  obtain ⟨q, hq⟩ : ∃ q, S / total = q := ⟨_, rfl⟩
  have hqi : (S : Int) / (total : Int) = (q : Int) := by rw [← hq]; simp
  rw [hq] at hpi
  obtain ⟨D, hD⟩ : ∃ D, q * start = D := ⟨_, rfl⟩
  obtain ⟨R, hR⟩ : ∃ R, q * size = R := ⟨_, rfl⟩
  have hd : ((q : Int) * (start : Int)) = (D : Int) := by rw [← hD]; simp
  have hr : ((q : Int) * (size : Int)) = (R : Int) := by rw [← hR]; simp
  rw [hD, hR] at hpi
  have hw1 : IntKind.u64.wrap ((q : Int) * (start : Int)) = (D : Int) := by rw [hd]; exact IntWalk.u64_in _ (by omega)
  have hw3 : IntKind.u64.wrap ((q : Int) * (size : Int)) = (R : Int) := by rw [hr]; exact IntWalk.u64_in _ (by omega)
  have hq0 : (0 : Int) ≤ (q : Int) := by omega
  have hq1 : (q : Int) < 4294967296 := by have := Nat.div_le_self S total; omega
  have hab : a.part start size total = (a.sub D R).widen := by unfold Rc.A.part; rw [← hS, hq, hD, hR]
  have Hab := Lib.hid hab
  have Hown := Lib.hid hown
  have Hrel := Lib.hid hrel
  have Hl := Lib.hid hl
  have Hk := Lib.hid hk
  have HSs := Lib.hid hS
  have Hg := Lib.hid hg
  have Hpi := Lib.hid hpi
  have hS0 : 0 ≤ (S : Int) := by omega
  have hS1 : (S : Int) < 4294967296 := by omega
  have HSS : Hid (1 ≤ R ∧ R < 4294967296) := ⟨by omega, by omega⟩
  have HD : Hid (D ≤ 1000000000000) := by show _ ≤ _; omega
  clear h hg hS hl hown hrel hk hShi hSlo hx hpi hq hD hR hab
  have key : True := trivial
  · clear hd hr
    go_enter Try.func19, Try.ntmps19
    go_upto_region 2 with fail
    obtain ⟨W, hW⟩ : ∃ W, (w.alloc (.cells #[.slice p L.length cap, .int .u64 ((S : Int))] 29)).alloc (.cells #[.slice none 0 0, .int .u64 0] 29) = W := ⟨_, rfl⟩
    have hz := heap_alloc_new (w.alloc (.cells #[.slice p L.length cap, .int .u64 ((S : Int))] 29)) (.cells #[.slice none 0 0, .int .u64 0] 29)
    rw [hW, show (w.alloc (.cells #[.slice p L.length cap, .int .u64 ((S : Int))] 29)).heap.size = w.heap.size + 1 by simp] at hz
    have hf : Fr (fun _ => False) w W := by rw [← hW]; exact ((Fr.refl _ _).alloc _).alloc _
    have hb0 : W.heap[w.heap.size]? = some (.cells #[.slice p L.length cap, .int .u64 ((S : Int))] 29 (0, 0)) := by rw [← hW]; exact block_alloc (heap_alloc_new w _)
    have ho0 : W.ownsRow 0 5 1 (.slice p L.length cap) L.length (bytesV L) := own_keep Hown.out hf (fun _ _ h => h)
    rw [hW]
    have Hz := Lib.hid hz
    have Hf := Lib.hid hf
    have Hb := Lib.hid hb0
    have Ho := Lib.hid ho0
    clear hW hz hf hb0 ho0
    clear hqi
    have hadd := ref_add p cap L D W Ho.out (by have := Hl.out; omega) (by have := Hl.out; have := Hk.out; omega) (by have := HD.out; omega)
    have Hadd := Lib.hid hadd
    have g0 : W.cell? ⟨w.heap.size, 0, none⟩ = some (.slice p L.length cap) := (cell_of Hb.out 0).trans rfl
    have g1 : W.cell? ⟨w.heap.size, 1, none⟩ = some (.int .u64 ((S : Int))) := (cell_of Hb.out 1).trans rfl
    clear hadd
    go_upto_region 3 with (go_at_call 64; refine Hadd.out.mono ?_; rintro e w2 ⟨v2, X, rfl, hX1, hX2, hX3, f2, g2⟩; obtain ⟨q2, c2, rfl⟩ := own_any hX1; have HP : Hid (∀ g, (Value.slice q2 X.length c2).ownBlock = some g → rowOf (.agg #[.slice p L.length cap, .int .u64 (S : Int)]) = some g ∨ w.heap.size ≤ g) := (fun g hg => .inr (Nat.le_trans Hf.out.size (g2 g hg))); have HX1 := Lib.hid hX1; have HX2 := Lib.hid hX2; have HX3 := Lib.hid hX3; have Hf2 := Lib.hid (Hf.out.trans f2 (fun _ h => .inl h)); have Hz2 := Lib.hid (f2.keep Hz.out (fun h => h)); have Hb2 := Lib.hid (f2.keep Hb.out (fun h => h)); have k0 : w2.cell? ⟨w.heap.size, 0, none⟩ = some (.slice p L.length cap) := (cell_of Hb2.out 0).trans rfl; have k1 : w2.cell? ⟨w.heap.size, 1, none⟩ = some (.int .u64 ((S : Int))) := (cell_of Hb2.out 1).trans rfl; have kf0 := free_of Hb2.out 0; have kf1 := free_of Hb2.out 1; clear hX1 hX2 hX3 f2 g2)
    go_upto_region 4 with fail
    clear hw1 hw3
    obtain ⟨W3, hW3⟩ : ∃ W3, (w2.setCell ⟨w.heap.size, 0, none⟩ (.slice q2 X.length c2)).setCell ⟨w.heap.size, 1, none⟩ (.int .u64 (R : Int)) = W3 := ⟨_, rfl⟩
    have hb3 : W3.heap[w.heap.size]? = some (.cells #[.slice q2 X.length c2, .int .u64 ((R : Int))] 29 (0, 0)) := by
      rw [← hW3]
      have h1 := block_setCell Hb2.out (off := 0) (.slice q2 X.length c2)
      have h2 := block_setCell h1 (off := 1) (.int .u64 ((R : Int)))
      simpa using h2
    have hz3 : W3.heap[w.heap.size + 1]? = some (.cells #[.slice none 0 0, .int .u64 0] 29 (0, 0)) := by
      rw [← hW3]
      exact block_setCell_other (block_setCell_other Hz2.out (by omega) _) (by omega) _
    have ho3 : W3.ownsRow 0 5 1 (.slice q2 X.length c2) X.length (bytesV X) := by
      rw [← hW3]
      refine own_same HX1.out fun g hg => ?_
      obtain ⟨cur, hc⟩ := own_ty HX1.out hg
      have hne := ne_of_ty hc Hb2.out (by decide)
      rw [Below.heap_setCell _ _ _ _ hne, Below.heap_setCell _ _ _ _ hne]
    have hf3 : Fr (fun _ => False) w W3 := by rw [← hW3]; exact (Hf2.out.setCell _ _ (.inr (Nat.le_refl _))).setCell _ _ (.inr (Nat.le_refl _))
    rw [hW3]
    have Hb3 := Lib.hid hb3
    have Hz3 := Lib.hid hz3
    have Ho3 := Lib.hid ho3
    have Hf3 := Lib.hid hf3
    clear hW3 hb3 hz3 ho3 hf3 k0 k1 kf0 kf1 Hb2 Hz2 Hf2 HX1 Hadd g0 g1 Hb Hz Hf Ho
    have hrl : Rc.RelL X R (a.sub D R) := Hrel.out.sub Hg.out.fits (by rw [← HSs.out]; have := Hpi.out; omega) HSS.out.1 HX2.out HX3.out
    have Hrl := Lib.hid hrl
    have Hlen : Hid (0 < X.length ∧ X.length ≤ 900000000) := ⟨by have := HX2.out; have := Hl.out; omega, by have := HX2.out; have := Hl.out; have := Hk.out; omega⟩
    clear hrl HX2 HX3
    have g0 : W3.cell? ⟨w.heap.size, 0, none⟩ = some (.slice q2 X.length c2) := (cell_of Hb3.out 0).trans rfl
    have g1 : W3.cell? ⟨w.heap.size, 1, none⟩ = some (.int .u64 ((R : Int))) := (cell_of Hb3.out 1).trans rfl
    have hwd := ref_widen q2 c2 X R W3 Ho3.out Hlen.out.1 Hlen.out.2 HSS.out.1 HSS.out.2
    have Hwd := Lib.hid hwd
    clear hwd
    go_wp2_with ((go_at_call 65; refine Hwd.out.mono ?_; rintro e w3 ⟨v3, x3, rfl, h3, f3, g3⟩; obtain ⟨q3, c3, rfl⟩ := own_any h3.own; obtain rfl := h3.val; have HG3 : Hid (∀ g, (Value.slice q3 _ c3).ownBlock = some g → rowOf (.agg #[.slice p L.length cap, .int .u64 (S : Int)]) = some g ∨ w.heap.size ≤ g) := (fun g hg => (g3 g hg).elim (HP.out g) (fun h => .inr (Nat.le_trans Hf3.out.size h))); have hz3 := f3.keep Hz3.out (fun h => h); have HA := Lib.hid ((RefV.relA h3 (Hrl.out.widenN 3)).store2 hz3 (.slice q3 (Rc.Lwiden 3 (X, R)).1.length c3) (.int .u64 ((Rc.Lwiden 3 (X, R)).2 : Int))); have HF := Lib.hid (Hf3.out.trans f3 (fun _ h => .inl h)); have z0 : w3.cell? ⟨w.heap.size + 1, 0, none⟩ = some (.slice none 0 0) := (cell_of hz3 0).trans rfl; have z1 : w3.cell? ⟨w.heap.size + 1, 1, none⟩ = some (.int .u64 0) := (cell_of hz3 1).trans rfl; have zf0 := free_of hz3 0; have zf1 := free_of hz3 1; clear h3 f3 hz3 g3))
    refine bodyPost_ret (v := .agg #[.slice q3 (Rc.Lwiden 3 (X, R)).1.length c3, .int .u64 ((Rc.Lwiden 3 (X, R)).2 : Int)]) ?_ rfl ?_
    · simp [results, Try.results19, go_sem, z0, z1]
    · exact ⟨_, rfl, by rw [Hab.out]; exact HA.out, (HF.out.setCell _ _ (.inr (by simp))).setCell _ _ (.inr (by simp)), HG3.out⟩

set_option maxHeartbeats 1000000 in
set_option maxRecDepth 100000 in
theorem ref_end (r : Value) (a : Rc.A) (e0 : Rc.E) (w : World) (h : RefA w r a) (hk : a.k ≤ 100000000) (hE : Rc.Rel e0 a) :
    Calls Try.prog 23 #[r] w fun e w' => e = .returned (.string ⟨e0.ended.toArray⟩) ∧ Fr (fun _ => False) w w' := by
  obtain ⟨p, cap, L, S, hown, rfl, hrel⟩ := h.ex
  have hend := Rc.ended_is hE hrel
  have hl := hrel.l
  have hconv := own_text (own_keep hown ((Fr.refl (fun _ => False) w).alloc (.cells #[.slice p L.length cap, .int .u64 (S : Int)] 29)) (fun _ _ h => h))
  have hcat : (ByteArray.mk #[0]) ++ (ByteArray.mk L.toArray) = ⟨(0 :: L).toArray⟩ := by
    apply ByteArray.ext
    rw [ByteArray.data_append]
    simp
  have hsum : ¬ 9223372036854775807 < 1 + L.length := by omega
  have Hend := Lib.hid hend
  have Hcat := Lib.hid hcat
  clear h hE hrel hown hend hl hk hcat
  go_enter Try.func23, Try.ntmps23
  go_wp2
  go_ret
  refine ⟨?_, (Fr.refl _ _).alloc _⟩
  rw [Hend.out, ← Hcat.out]
  rfl

theorem val4 : Rc.RelL [0, 0, 0, 0] 4294967295 Rc.A.start := Rc.RelL.start
set_option maxHeartbeats 1000000 in
set_option maxRecDepth 100000 in
theorem ref_new (w : World) : Calls Try.prog 14 #[] w fun e w' => ∃ r, e = .returned r ∧ RefA w' r Rc.A.start ∧ Fr (fun _ => False) w w' ∧ (∀ g, rowOf r = some g → w.heap.size ≤ g) := by
  have hmk : ∀ w, (Instr.makeSlice 26 (.int .i64 4) (.int .i64 4)).run Try.prog w = .ok (.slice (some ⟨w.heap.size, 0, none⟩) 4 4) (w.alloc (.cells #[.int .u8 0, .int .u8 0, .int .u8 0, .int .u8 0] 5)) := fun _ => by kernel_rfl
  go_enter Try.func14, Try.ntmps14
  go_wp2
  refine bodyPost_ret (v := .agg #[.slice (some ⟨w.heap.size + 1, 0, none⟩) 4 4, .int .u64 4294967295]) ?_ rfl ?_
  · simp [results, Try.results14, go_sem]
  · refine ⟨_, rfl, ⟨⟨some ⟨w.heap.size + 1, 0, none⟩, 4, [0, 0, 0, 0], 4294967295, ?_, rfl, val4⟩⟩, ((Fr.refl _ _).alloc _).alloc _, fun g hg => by simp [rowOf, Value.ownBlock] at hg; omega⟩
    have h := heap_alloc_new (w.alloc (.cells #[.slice (some ⟨w.heap.size + 1, 0, none⟩) 4 4, .int .u64 4294967295] 29)) (.cells #[.int .u8 0, .int .u8 0, .int .u8 0, .int .u8 0] 5)
    rw [show (w.alloc (.cells #[.slice (some ⟨w.heap.size + 1, 0, none⟩) 4 4, .int .u64 4294967295] 29)).heap.size = w.heap.size + 1 by simp] at h
    exact ⟨rfl, .inr ⟨_, 4, _, rfl, Nat.zero_le _, h, by decide, by decide, rfl, rfl⟩⟩
end Go.Proofs.Ytpddocehjljofaa
