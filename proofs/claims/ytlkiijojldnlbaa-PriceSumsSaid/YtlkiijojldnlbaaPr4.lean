/- PriceTells: the walk of the law. -/
import Derived.Test.YtlkiijojldnlbaaPr3
namespace Go.Proofs.Ytlkiijojldnlbaa
open Go.RowKit Go.Sort

theorem calls_same {P : Program} {f : FuncId} {args : Array Value} {w : World} {v : Value} (h : Calls P f args w fun e w' => e = .returned v ∧ w' = w) :
    Calls P f args w fun e w' => e = .returned v ∧ ∃ q os', w' = grow (w.drewN q) os' := h.mono fun _ _ ⟨he, hw⟩ => ⟨he, by subst hw; exact Gw.refl _⟩
def spk (i : Nat) : Pk := if i = 0 then ⟨2, 3, 4, 0⟩ else ⟨1, 0, 0, 0⟩
theorem spk_fits (i : Nat) : (spk i).fits := by
  unfold spk Pk.fits
  split <;> decide
theorem rg_common : Rg 34 20 16 36 5 := ⟨by decide, by decide, by decide, by decide, by decide⟩

set_option maxRecDepth 100000 in
theorem speaks15 (w : World) : Calls Try.prog 8 #[] w fun x w' => x = .returned (.bool true) ∧ Gw w w' := by
  have hsum : costs 34 20 16 36 5 spk 2 = 80 := by decide
  go_enter Try.func8, Try.ntmps8
  go_wp2_with (go_at_call 25; refine (common_is _).mono ?_; rintro e w1 ⟨rfl, h1⟩; have H1 := Lib.hid h1; clear h1)
  have hOf := of_is 34 20 16 36 5 rg_common spk spk_fits w1.heap.size 0 2 2 (by omega) 80 true (.inl ⟨fun i hi => by
      match i, hi with
      | 0, _ => exact .inr rfl
      | 1, _ => exact .inl rfl, hsum.symm, rfl⟩)
    (w1.alloc (.cells #[.int .i64 2, .int .i64 3, .int .i64 4, .int .u8 0, .int .i64 1, .int .i64 0, .int .i64 0, .int .u8 0] 33)) (by simp) (fun i hi => by
      match i, hi with
      | 0, _ => exact ⟨by simp; rfl, by simp; rfl, by simp; rfl, by simp; rfl⟩
      | 1, _ => exact ⟨by simp; rfl, by simp; rfl, by simp; rfl, by simp; rfl⟩)
  refine hOf.mono ?_
  rintro e w2 ⟨rfl, h2⟩
  have H2 : Hid (Gw w w2) := (H1.out.alloc _).trans h2
  clear hOf h2 hsum H1
  go_wp2_with (first
    | (go_at_call 25; refine (common_is _).mono ?_; rintro e w3 ⟨rfl, h3⟩; have H3 : Hid (Gw w w3) := H2.out.trans h3; clear h3)
    | (go_at_call 9; refine (good_is _ _ _ _ _ _).mono ?_; rintro e w4 ⟨rfl, h4⟩; have H4 : Hid (Gw w w4) := H3.out.trans h4; clear h4))
  go_ret
  exact ⟨rfl, H4.out⟩

theorem rg_of {a b c d e : Int} (h : okT a b c d e = true) : Rg a b c d e := by
  simp only [okT, okp, Bool.and_eq_true, decide_eq_true_eq, and_true] at h
  obtain ⟨h1, h2, h3, h4, h5⟩ := h
  exact ⟨h1, h2, h3, h4, h5⟩

theorem refgood_any (a b c d e : Int) (w : World) : Calls Try.prog 10 #[.agg #[.int .i64 a, .int .i64 b, .int .i64 c, .int .i64 d, .int .i64 e]] w fun x w' => x = .returned (.bool (okT a b c d e)) ∧ Gw w w' := refgood_is a b c d e w

set_option maxHeartbeats 4000000 in
set_option maxRecDepth 100000 in
theorem priceTells_walk (a b c d e n t : Int) (ht : -9223372036854775808 ≤ t ∧ t ≤ 9223372036854775807) (w : World) :
    Calls Try.prog 3 #[.agg #[.int .i64 a, .int .i64 b, .int .i64 c, .int .i64 d, .int .i64 e], .int .i64 n, .int .i64 t] w fun x w' => x = .returned (.bool true) ∧ Gw w w' := by
  have hgd := fun w => good_is a b c d e w
  have hrg := fun w => refgood_is a b c d e w
  have hr := @rg_of a b c d e
  generalize okT a b c d e = g at *
  have Hgd := Lib.hid hgd
  have Hrg := Lib.hid hrg
  have Hr := Lib.hid hr
  have HT := Lib.hid ht
  clear hgd hrg hr ht
  have mixed : Try.prog.follows .mixedOrders = true := by kernel_rfl
  go_enter Try.func3, Try.ntmps3
  go_upto_region 1 with fail
  have hb0 := Tb.new w a b c d e 23
  have hg0 : Gw w (w.alloc (.cells #[.int .i64 a, .int .i64 b, .int .i64 c, .int .i64 d, .int .i64 e] 23)) := (Gw.refl w).alloc _
  generalize w.alloc (.cells #[.int .i64 a, .int .i64 b, .int .i64 c, .int .i64 d, .int .i64 e] 23) = w1 at *
  generalize w.heap.size = T at *
  have Hb0 := Lib.hid hb0
  have Hg0 := Lib.hid hg0
  clear hb0 hg0
  go_upto_region 3 with (go_at_call 8; refine (speaks15 _).mono ?_; rintro x w2 ⟨rfl, h2⟩; have H2 := Lib.hid h2; clear h2)
  have hg1 : Gw w w2 := Hg0.out.trans H2.out
  have hb1 := Hb0.out.gw H2.out
  clear Hg0 Hb0 H2
  obtain ⟨lt0, c0, c1, c2, c3, c4⟩ := hb1
  go_upto_region 4 with fail
  have hb3 := Tb.new w2 a b c d e 25
  have hal : Gw w2 (w2.alloc (.cells #[.int .i64 a, .int .i64 b, .int .i64 c, .int .i64 d, .int .i64 e] 25)) := (Gw.refl w2).alloc _
  have hb2 := Tb.gw ⟨lt0, c0, c1, c2, c3, c4⟩ hal
  have hg2 := hg1.trans hal
  clear lt0 c0 c1 c2 c3 c4 hal hg1
  generalize w2.alloc (.cells #[.int .i64 a, .int .i64 b, .int .i64 c, .int .i64 d, .int .i64 e] 25) = W at *
  generalize w2.heap.size = X at *
  have Hb2 := Lib.hid hb2
  have Hb3 := Lib.hid hb3
  have Hg2 := Lib.hid hg2
  obtain ⟨tlt, t0, t1, t2, t3, t4⟩ := hb2
  obtain ⟨xlt, x0, x1, x2, x3, x4⟩ := hb3
  have g0 := fun n os => cell_grown (a := ⟨T, 0, none⟩) tlt t0 n os
  have g1 := fun n os => cell_grown (a := ⟨T, 1, none⟩) tlt t1 n os
  have g2 := fun n os => cell_grown (a := ⟨T, 2, none⟩) tlt t2 n os
  have g3 := fun n os => cell_grown (a := ⟨T, 3, none⟩) tlt t3 n os
  have g4 := fun n os => cell_grown (a := ⟨T, 4, none⟩) tlt t4 n os
  have y0 := fun n os => cell_grown (a := ⟨X, 0, none⟩) xlt x0 n os
  have y1 := fun n os => cell_grown (a := ⟨X, 1, none⟩) xlt x1 n os
  have y2 := fun n os => cell_grown (a := ⟨X, 2, none⟩) xlt x2 n os
  have y3 := fun n os => cell_grown (a := ⟨X, 3, none⟩) xlt x3 n os
  have y4 := fun n os => cell_grown (a := ⟨X, 4, none⟩) xlt x4 n os
  clear hg2 t0 t1 t2 t3 t4 x0 x1 x2 x3 x4 tlt xlt
  go_quiet_grown (first | (go_at_call 9; exact Calls.grown_of (Hgd.out _)) | (go_at_call 10; exact Calls.grown_of (Hrg.out _)))
  have hgw : Gw W (grow (W.drewN nq) osq) := (Gw.refl W).grow _ _
  have hg5 := Hg2.out.trans hgw
  have hb5 := Hb2.out.gw hgw
  have hb6 := Hb3.out.gw hgw
  clear g0 g1 g2 g3 g4 y0 y1 y2 y3 y4 Hb2 Hb3 Hg2 hgw
  generalize grow (W.drewN nq) osq = V at *
  obtain ⟨xlt, x0, x1, x2, x3, x4⟩ := hb6
  have Hg5 := Lib.hid hg5
  have Hb5 := Lib.hid hb5
  clear hg5 hb5
  cases g with
  | false =>
    clear Hr
    go_wp2_with (go_at_call 9; refine (Hgd.out _).mono ?_; rintro x w6 ⟨rfl, h6⟩; have H6 := Lib.hid h6; clear h6)
    go_ret
    exact ⟨rfl, Hg5.out.trans H6.out⟩
  | true =>
    have r := Hr.out rfl
    clear Hr Hrg
    have hdi := fun w => dist_is a b c d e t ⟨by have := r.e; omega, r.e.2⟩ HT.out.2 w
    have hrb := fun w => refbits_is t HT.out.2 HT.out.1 w
    have hli := fun w => length_is a b c d e n w
    have hmr := mul_range t r.e HT.out.2
    generalize dbits t = D at *
    obtain ⟨E, hE⟩ : ∃ E, e * (D : Int) = E := ⟨_, rfl⟩
    have hmu : IntKind.i64.wrap (e * (D : Int)) = E := by rw [hE] at hmr ⊢; exact IntWalk.i64_in _ (by omega)
    simp only [hE] at hdi
    clear hE
    have Hdi := Lib.hid hdi
    have Hrb := Lib.hid hrb
    clear hdi hrb hmr r
    have mixed2 : Try.prog.follows .mixedOrders = true := mixed
    by_cases hn : n < 10
    · simp only [if_pos hn] at hli
      have Hli := Lib.hid hli
      clear hli
      go_upto_region 11 with (go_at_call 9; refine (Hgd.out _).mono ?_; rintro x w6 ⟨rfl, h6⟩; have H6 : Hid (Gw w w6) := Hg5.out.trans h6; have hb7 := Hb5.out.gw h6; have hb8 := Tb.gw ⟨by assumption, x0, x1, x2, x3, x4⟩ h6; clear x0 x1 x2 x3 x4 Hg5 Hb5 h6; obtain ⟨tlt, t0, t1, t2, t3, t4⟩ := hb7; obtain ⟨xlt, x0, x1, x2, x3, x4⟩ := hb8)
      have g4 := fun n os => cell_grown (a := ⟨T, 4, none⟩) tlt t4 n os
      have y0 := fun n os => cell_grown (a := ⟨X, 0, none⟩) xlt x0 n os
      have y1 := fun n os => cell_grown (a := ⟨X, 1, none⟩) xlt x1 n os
      have y2 := fun n os => cell_grown (a := ⟨X, 2, none⟩) xlt x2 n os
      have y3 := fun n os => cell_grown (a := ⟨X, 3, none⟩) xlt x3 n os
      have y4 := fun n os => cell_grown (a := ⟨X, 4, none⟩) xlt x4 n os
      clear t0 t1 t2 t3 t4 x0 x1 x2 x3 x4 tlt xlt hn
      go_quiet_grown (first | (go_at_call 11; exact Calls.grown_of (Hli.out _)) | (go_at_call 12; exact Calls.grown_of (Hdi.out _)) | (go_at_call 13; exact Calls.grown_of (calls_same (Hrb.out _))))
      go_wp2
      go_ret
      exact ⟨by simp, H6.out.grow _ _⟩
    · simp only [if_neg hn] at hli
      have Hli := Lib.hid hli
      clear hli
      go_upto_region 11 with (go_at_call 9; refine (Hgd.out _).mono ?_; rintro x w6 ⟨rfl, h6⟩; have H6 : Hid (Gw w w6) := Hg5.out.trans h6; have hb7 := Hb5.out.gw h6; have hb8 := Tb.gw ⟨by assumption, x0, x1, x2, x3, x4⟩ h6; clear x0 x1 x2 x3 x4 Hg5 Hb5 h6; obtain ⟨tlt, t0, t1, t2, t3, t4⟩ := hb7; obtain ⟨xlt, x0, x1, x2, x3, x4⟩ := hb8)
      have g4 := fun n os => cell_grown (a := ⟨T, 4, none⟩) tlt t4 n os
      have y0 := fun n os => cell_grown (a := ⟨X, 0, none⟩) xlt x0 n os
      have y1 := fun n os => cell_grown (a := ⟨X, 1, none⟩) xlt x1 n os
      have y2 := fun n os => cell_grown (a := ⟨X, 2, none⟩) xlt x2 n os
      have y3 := fun n os => cell_grown (a := ⟨X, 3, none⟩) xlt x3 n os
      have y4 := fun n os => cell_grown (a := ⟨X, 4, none⟩) xlt x4 n os
      clear t0 t1 t2 t3 t4 x0 x1 x2 x3 x4 tlt xlt hn
      go_quiet_grown (first | (go_at_call 11; exact Calls.grown_of (Hli.out _)) | (go_at_call 12; exact Calls.grown_of (Hdi.out _)) | (go_at_call 13; exact Calls.grown_of (calls_same (Hrb.out _))))
      go_wp2
      go_ret
      exact ⟨by simp, H6.out.grow _ _⟩
end Go.Proofs.Ytlkiijojldnlbaa
