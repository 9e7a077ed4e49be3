/- Walks of the reference of layer 3 (rc): the encoder's steps. -/
import Derived.Test.YtpddocehjljofaaRef
namespace Go.Proofs.Ytpddocehjljofaa
set_option linter.unusedVariables false
open Go.RowKit Go.My

/-- The document's encoder at a range. -/
structure RefA (w : World) (r : Value) (a : Rc.A) : Prop where
  ex : ∃ (x : Option Addr) (cap : Nat) (L : List UInt8) (S : Nat), w.ownsRow 0 5 1 (.slice x L.length cap) L.length (bytesV L) ∧ r = .agg #[.slice x L.length cap, .int .u64 (S : Int)] ∧ Rc.RelL L S a
theorem RefA.keep {w w' : World} {r : Value} {a : Rc.A} (h : RefA w r a) (hf : Fr (fun _ => False) w w') : RefA w' r a := by
  obtain ⟨x, cap, L, S, h1, h2, h3⟩ := h.ex
  exact ⟨⟨x, cap, L, S, own_keep h1 hf (fun _ _ h => h), h2, h3⟩⟩
theorem RefV.relA {w : World} {v x : Value} {L : List UInt8} {S : Nat} {a : Rc.A} (h : RefV w v L S x) (hr : Rc.RelL L S a) : RefA w x a := by
  obtain ⟨p, c, hv⟩ := own_any h.own
  subst hv
  exact ⟨⟨p, c, L, S, h.own, h.val, hr⟩⟩

theorem RefA.store {w : World} {r : Value} {a : Rc.A} (h : RefA w r a) {k : Nat} {cs : Array Value} {fr : Nat × Nat} (hk : w.heap[k]? = some (.cells cs 29 fr)) (i : Nat) (u : Value) : RefA (w.setCell ⟨k, i, none⟩ u) r a := by
  obtain ⟨x, cap, L, S, h1, h2, h3⟩ := h.ex
  refine ⟨⟨x, cap, L, S, own_same h1 fun g hg => Below.heap_setCell _ _ _ _ ?_, h2, h3⟩⟩
  obtain ⟨cur, hc⟩ := own_ty h1 hg
  exact ne_of_ty hc hk (by decide)
theorem RefA.store2 {w : World} {r : Value} {a : Rc.A} (h : RefA w r a) {k : Nat} {cs : Array Value} (hk : w.heap[k]? = some (.cells cs 29 (0, 0))) (u u' : Value) : RefA ((w.setCell ⟨k, 0, none⟩ u).setCell ⟨k, 1, none⟩ u') r a :=
  (h.store hk 0 u).store (block_setCell hk (off := 0) u) 1 u'

/-- The block of an encoder's bytes. -/
def rowOf : Value → Option Nat
  | .agg xs => (xs.getD 0 (.bool false)).ownBlock
  | _ => none

set_option maxRecDepth 100000 in
theorem ref_learn (x bit : Nat) (hx : x ≤ 2048) (w : World) : Calls Try.prog 67 #[.int .u64 (x : Int), .int .i64 (bit : Int)] w fun r w' => r = .returned (.int .u64 (Rc.learn x bit : Nat)) ∧ w = w' := by
  by_cases h0 : bit = 0
  · subst h0
    have e : ((Rc.learn x 0 : Nat) : Int) = (x : Int) + (2048 - (x : Int)) / 32 := by unfold Rc.learn; rw [if_pos rfl]; omega
    rw [e]
    clear e
    go_enter Try.func67, Try.ntmps67
    go_wp2
    go_ret
    exact ⟨rfl, rfl⟩
  · have e : ((Rc.learn x bit : Nat) : Int) = (x : Int) - (x : Int) / 32 := by unfold Rc.learn; rw [if_neg h0]; omega
    rw [e]
    have h0' : ((bit : Int) == 0) = false := by simp; omega
    clear e h0
    go_enter Try.func67, Try.ntmps67
    go_wp2
    go_ret
    exact ⟨rfl, rfl⟩

set_option maxHeartbeats 2000000 in
set_option maxRecDepth 100000 in
theorem ref_bit (r : Value) (a : Rc.A) (x bit : Nat) (w : World) (h : RefA w r a) (hg : a.Good) (hk : a.k ≤ 100000000) (hx : Rc.PrOk x) :
    Calls Try.prog 21 #[r, .int .u64 (x : Int), .int .i64 (bit : Int)] w fun e w' => ∃ r', e = .returned (.tuple #[r', .int .u64 (Rc.learn x bit : Nat)]) ∧ RefA w' r' (a.bit x bit) ∧ Fr (fun _ => False) w w' ∧ (∀ g, rowOf r' = some g → rowOf r = some g ∨ w.heap.size ≤ g) := by
  obtain ⟨p, cap, L, S, hown, rfl, hrel⟩ := h.ex
  have hbd := Rc.bound_in hg.lo hx
  have hS := hrel.s
  have hl := hrel.l
  rw [← hS] at hbd
  have hShi : S < 4294967296 := by rw [hS]; exact hg.hi
  have hSlo : 16777216 ≤ S := by rw [hS]; exact hg.lo
  have hx0 : 0 ≤ (x : Int) := by omega
  have hx1 : (x : Int) ≤ 2048 := by have := hx.2; omega
  have e1 : ((Rc.bound S x : Nat) : Int) = (S : Int) / 2048 * (x : Int) := by unfold Rc.bound; simp
  obtain ⟨B, hB⟩ : ∃ B, Rc.bound S x = B := ⟨_, rfl⟩
  rw [hB] at e1 hbd
  have hwr : IntKind.u64.wrap ((S : Int) / 2048 * (x : Int)) = (B : Int) := by rw [← e1]; exact IntWalk.u64_in _ (by omega)
  have hlrn := ref_learn x bit (by have := hx.2; omega)
  have Hlrn := Lib.hid hlrn
  have Hown := Lib.hid hown
  have Hrel := Lib.hid hrel
  have HB := Lib.hid hB
  have Hbd := Lib.hid hbd
  have Hl := Lib.hid hl
  have Hk := Lib.hid hk
  have HSs := Lib.hid hS
  have Hhi := Lib.hid hShi
  have Hg := Lib.hid hg
  have hS0 : 0 ≤ (S : Int) := by omega
  have hS1 : (S : Int) < 4294967296 := by omega
  clear h hg hx hS hl hbd hlrn hown hrel hB hk hShi hSlo e1
  by_cases h0 : bit = 0
  · have h0' : ((bit : Int) == 0) = true := by simp [h0]
    have hab : a.bit x bit = (a.sub 0 B).widen := by unfold Rc.A.bit; rw [if_pos h0, ← HSs.out, HB.out]
    have hrl : Rc.RelL L B (a.sub 0 B) := ⟨by rw [Hrel.out.v]; rfl, by rw [Hl.out]; rfl, rfl⟩
    have Hab := Lib.hid hab
    have Hrl := Lib.hid hrl
    have Hlen : Hid (0 < L.length ∧ L.length ≤ 900000000) := ⟨by have := Hl.out; omega, by have := Hl.out; have := Hk.out; omega⟩
    have HP : Hid (∀ g, (Value.slice p L.length cap).ownBlock = some g → rowOf (.agg #[.slice p L.length cap, .int .u64 (S : Int)]) = some g ∨ w.heap.size ≤ g) := (fun g h => .inl h)
    have HSS : Hid (1 ≤ B ∧ B < 4294967296) := ⟨Hbd.out.1, by have := Hbd.out; have := Hhi.out; omega⟩
    clear h0 hab hrl
    go_enter Try.func21, Try.ntmps21
    go_upto_region 6 with fail
    obtain ⟨W, hW⟩ : ∃ W, (w.alloc (.cells #[.slice p L.length cap, .int .u64 ((B : Int))] 29)).alloc (.cells #[.slice none 0 0, .int .u64 0] 29) = W := ⟨_, rfl⟩
    have hz := heap_alloc_new (w.alloc (.cells #[.slice p L.length cap, .int .u64 ((B : Int))] 29)) (.cells #[.slice none 0 0, .int .u64 0] 29)
    rw [hW, show (w.alloc (.cells #[.slice p L.length cap, .int .u64 ((B : Int))] 29)).heap.size = w.heap.size + 1 by simp] at hz
    have hf : Fr (fun _ => False) w W := by rw [← hW]; exact ((Fr.refl _ _).alloc _).alloc _
    have hb0 : W.heap[w.heap.size]? = some (.cells #[.slice p L.length cap, .int .u64 ((B : Int))] 29 (0, 0)) := by rw [← hW]; exact block_alloc (heap_alloc_new w _)
    have ho0 : W.ownsRow 0 5 1 (.slice p L.length cap) L.length (bytesV L) := own_keep Hown.out hf (fun _ _ h => h)
    rw [hW]
    have Hz := Lib.hid hz
    have Hf := Lib.hid hf
    have Hb := Lib.hid hb0
    have Ho := Lib.hid ho0
    clear hW hz hf hb0 ho0
    have g0 : W.cell? ⟨w.heap.size, 0, none⟩ = some (.slice p L.length cap) := (cell_of Hb.out 0).trans rfl
    have g1 : W.cell? ⟨w.heap.size, 1, none⟩ = some (.int .u64 ((B : Int))) := (cell_of Hb.out 1).trans rfl
    have hwd := ref_widen p cap L B W Ho.out Hlen.out.1 Hlen.out.2 HSS.out.1 HSS.out.2
    have Hwd := Lib.hid hwd
    clear hwd
    go_wp2_with (first | (go_at_call 65; refine Hwd.out.mono ?_; rintro e w3 ⟨v3, x3, rfl, h3, f3, g3⟩; obtain ⟨q3, c3, rfl⟩ := own_any h3.own; obtain rfl := h3.val; have HG3 : Hid (∀ g, (Value.slice q3 _ c3).ownBlock = some g → rowOf (.agg #[.slice p L.length cap, .int .u64 (S : Int)]) = some g ∨ w.heap.size ≤ g) := (fun g hg => (g3 g hg).elim (HP.out g) (fun h => .inr (Nat.le_trans Hf.out.size h))); have hz3 := f3.keep Hz.out (fun h => h); have HA := Lib.hid ((RefV.relA h3 (Hrl.out.widenN 3)).store2 hz3 (.slice q3 (Rc.Lwiden 3 (L, B)).1.length c3) (.int .u64 ((Rc.Lwiden 3 (L, B)).2 : Int))); have HF := Lib.hid (Hf.out.trans f3 (fun _ h => .inl h)); have z0 : w3.cell? ⟨w.heap.size + 1, 0, none⟩ = some (.slice none 0 0) := (cell_of hz3 0).trans rfl; have z1 : w3.cell? ⟨w.heap.size + 1, 1, none⟩ = some (.int .u64 0) := (cell_of hz3 1).trans rfl; have zf0 := free_of hz3 0; have zf1 := free_of hz3 1; clear h3 f3 hz3 g3) | (go_at_call 67; refine (Hlrn.out _).mono ?_; rintro e w4 ⟨rfl, rfl⟩))
    refine bodyPost_ret (v := .tuple #[.agg #[.slice q3 (Rc.Lwiden 3 (L, B)).1.length c3, .int .u64 ((Rc.Lwiden 3 (L, B)).2 : Int)], .int .u64 (Rc.learn x bit : Nat)]) ?_ rfl ?_
    · simp [results, Try.results21, go_sem, z0, z1]
    · exact ⟨_, rfl, by rw [Hab.out]; exact HA.out, (HF.out.setCell _ _ (.inr (by simp))).setCell _ _ (.inr (by simp)), HG3.out⟩
  · have h0' : ((bit : Int) == 0) = false := by simp; omega
    have hab : a.bit x bit = (a.sub B (S - B)).widen := by unfold Rc.A.bit; rw [if_neg h0, ← HSs.out, HB.out]
    have Hab := Lib.hid hab
    have HD : Hid (B ≤ 1000000000000) := by show _ ≤ _; have := Hbd.out; have := Hhi.out; omega
    have HSS : Hid (1 ≤ S - B ∧ S - B < 4294967296) := ⟨by have := Hbd.out; omega, by have := Hhi.out; omega⟩
    have hBS : (B : Int) ≤ (S : Int) := by have := Hbd.out; omega
    clear h0 hab
    go_enter Try.func21, Try.ntmps21
    go_upto_region 4 with fail
    obtain ⟨W, hW⟩ : ∃ W, (w.alloc (.cells #[.slice p L.length cap, .int .u64 ((S : Int))] 29)).alloc (.cells #[.slice none 0 0, .int .u64 0] 29) = W := ⟨_, rfl⟩
    have hz := heap_alloc_new (w.alloc (.cells #[.slice p L.length cap, .int .u64 ((S : Int))] 29)) (.cells #[.slice none 0 0, .int .u64 0] 29)
    rw [hW, show (w.alloc (.cells #[.slice p L.length cap, .int .u64 ((S : Int))] 29)).heap.size = w.heap.size + 1 by simp] at hz
    have hf : Fr (fun _ => False) w W := by rw [← hW]; exact ((Fr.refl _ _).alloc _).alloc _
    have hb0 : W.heap[w.heap.size]? = some (.cells #[.slice p L.length cap, .int .u64 ((S : Int))] 29 (0, 0)) := by rw [← hW]; exact block_alloc (heap_alloc_new w _)
    have ho0 : W.ownsRow 0 5 1 (.slice p L.length cap) L.length (bytesV L) := own_keep Hown.out hf (fun _ _ h => h)
    rw [hW]
    have Hz := Lib.hid hz
    have Hf := Lib.hid hf
    have Hb := Lib.hid hb0
    have Ho := Lib.hid ho0
    clear hW hz hf hb0 ho0
    clear hwr
    have hadd := ref_add p cap L B W Ho.out (by have := Hl.out; omega) (by have := Hl.out; have := Hk.out; omega) (by have := HD.out; omega)
    have Hadd := Lib.hid hadd
    have g0 : W.cell? ⟨w.heap.size, 0, none⟩ = some (.slice p L.length cap) := (cell_of Hb.out 0).trans rfl
    have g1 : W.cell? ⟨w.heap.size, 1, none⟩ = some (.int .u64 ((S : Int))) := (cell_of Hb.out 1).trans rfl
    clear hadd
    go_upto_region 6 with (go_at_call 64; refine Hadd.out.mono ?_; rintro e w2 ⟨v2, X, rfl, hX1, hX2, hX3, f2, g2⟩; obtain ⟨q2, c2, rfl⟩ := own_any hX1; have HP : Hid (∀ g, (Value.slice q2 X.length c2).ownBlock = some g → rowOf (.agg #[.slice p L.length cap, .int .u64 (S : Int)]) = some g ∨ w.heap.size ≤ g) := (fun g hg => .inr (Nat.le_trans Hf.out.size (g2 g hg))); have HX1 := Lib.hid hX1; have HX2 := Lib.hid hX2; have HX3 := Lib.hid hX3; have Hf2 := Lib.hid (Hf.out.trans f2 (fun _ h => .inl h)); have Hz2 := Lib.hid (f2.keep Hz.out (fun h => h)); have Hb2 := Lib.hid (f2.keep Hb.out (fun h => h)); have k0 : w2.cell? ⟨w.heap.size, 0, none⟩ = some (.slice p L.length cap) := (cell_of Hb2.out 0).trans rfl; have k1 : w2.cell? ⟨w.heap.size, 1, none⟩ = some (.int .u64 ((S : Int))) := (cell_of Hb2.out 1).trans rfl; have kf0 := free_of Hb2.out 0; have kf1 := free_of Hb2.out 1; clear hX1 hX2 hX3 f2 g2)
    obtain ⟨W3, hW3⟩ : ∃ W3, (w2.setCell ⟨w.heap.size, 0, none⟩ (.slice q2 X.length c2)).setCell ⟨w.heap.size, 1, none⟩ (.int .u64 ((S : Int) - (B : Int))) = W3 := ⟨_, rfl⟩
    have hb3 : W3.heap[w.heap.size]? = some (.cells #[.slice q2 X.length c2, .int .u64 ((S : Int) - (B : Int))] 29 (0, 0)) := by
      rw [← hW3]
      have h1 := block_setCell Hb2.out (off := 0) (.slice q2 X.length c2)
      have h2 := block_setCell h1 (off := 1) (.int .u64 ((S : Int) - (B : Int)))
      simpa using h2
    have hz3 : W3.heap[w.heap.size + 1]? = some (.cells #[.slice none 0 0, .int .u64 0] 29 (0, 0)) := by
      rw [← hW3]
      exact block_setCell_other (block_setCell_other Hz2.out (by omega) _) (by omega) _
    have ho3 : W3.ownsRow 0 5 1 (.slice q2 X.length c2) X.length (bytesV X) := by
      rw [← hW3]
      refine own_same HX1.out fun g hg => ?_
      obtain ⟨cur, hc⟩ := own_ty HX1.out hg
      have hne := ne_of_ty hc Hb2.out (by decide)
      rw [Below.heap_setCell _ _ _ _ hne, Below.heap_setCell _ _ _ _ hne]
    have hf3 : Fr (fun _ => False) w W3 := by rw [← hW3]; exact (Hf2.out.setCell _ _ (.inr (Nat.le_refl _))).setCell _ _ (.inr (Nat.le_refl _))
    rw [hW3]
    have Hb3 := Lib.hid hb3
    have Hz3 := Lib.hid hz3
    have Ho3 := Lib.hid ho3
    have Hf3 := Lib.hid hf3
    clear hW3 hb3 hz3 ho3 hf3 k0 k1 kf0 kf1 Hb2 Hz2 Hf2 HX1 Hadd g0 g1 Hb Hz Hf Ho
    have hrl : Rc.RelL X (S - B) (a.sub B (S - B)) := Hrel.out.sub Hg.out.fits (by rw [← HSs.out]; have := Hbd.out; omega) HSS.out.1 HX2.out HX3.out
    have Hrl := Lib.hid hrl
    have Hlen : Hid (0 < X.length ∧ X.length ≤ 900000000) := ⟨by have := HX2.out; have := Hl.out; omega, by have := HX2.out; have := Hl.out; have := Hk.out; omega⟩
    have hsv : ((S - B : Nat) : Int) = (S : Int) - (B : Int) := by have := Hbd.out; omega
    have Hsv := Lib.hid hsv
    clear hrl hsv HX2 HX3
    have g0 : W3.cell? ⟨w.heap.size, 0, none⟩ = some (.slice q2 X.length c2) := (cell_of Hb3.out 0).trans rfl
    have g1 : W3.cell? ⟨w.heap.size, 1, none⟩ = some (.int .u64 ((S : Int) - (B : Int))) := (cell_of Hb3.out 1).trans rfl
    have hwd := ref_widen q2 c2 X (S - B) W3 Ho3.out Hlen.out.1 Hlen.out.2 HSS.out.1 HSS.out.2
    rw [Hsv.out] at hwd
    have Hwd := Lib.hid hwd
    clear hwd
    go_wp2_with (first | (go_at_call 65; refine Hwd.out.mono ?_; rintro e w3 ⟨v3, x3, rfl, h3, f3, g3⟩; obtain ⟨q3, c3, rfl⟩ := own_any h3.own; obtain rfl := h3.val; have HG3 : Hid (∀ g, (Value.slice q3 _ c3).ownBlock = some g → rowOf (.agg #[.slice p L.length cap, .int .u64 (S : Int)]) = some g ∨ w.heap.size ≤ g) := (fun g hg => (g3 g hg).elim (HP.out g) (fun h => .inr (Nat.le_trans Hf3.out.size h))); have hz3 := f3.keep Hz3.out (fun h => h); have HA := Lib.hid ((RefV.relA h3 (Hrl.out.widenN 3)).store2 hz3 (.slice q3 (Rc.Lwiden 3 (X, (S - B))).1.length c3) (.int .u64 ((Rc.Lwiden 3 (X, (S - B))).2 : Int))); have HF := Lib.hid (Hf3.out.trans f3 (fun _ h => .inl h)); have z0 : w3.cell? ⟨w.heap.size + 1, 0, none⟩ = some (.slice none 0 0) := (cell_of hz3 0).trans rfl; have z1 : w3.cell? ⟨w.heap.size + 1, 1, none⟩ = some (.int .u64 0) := (cell_of hz3 1).trans rfl; have zf0 := free_of hz3 0; have zf1 := free_of hz3 1; clear h3 f3 hz3 g3) | (go_at_call 67; refine (Hlrn.out _).mono ?_; rintro e w4 ⟨rfl, rfl⟩))
    refine bodyPost_ret (v := .tuple #[.agg #[.slice q3 (Rc.Lwiden 3 (X, (S - B))).1.length c3, .int .u64 ((Rc.Lwiden 3 (X, (S - B))).2 : Int)], .int .u64 (Rc.learn x bit : Nat)]) ?_ rfl ?_
    · simp [results, Try.results21, go_sem, z0, z1]
    · exact ⟨_, rfl, by rw [Hab.out]; exact HA.out, (HF.out.setCell _ _ (.inr (by simp))).setCell _ _ (.inr (by simp)), HG3.out⟩
end Go.Proofs.Ytpddocehjljofaa
