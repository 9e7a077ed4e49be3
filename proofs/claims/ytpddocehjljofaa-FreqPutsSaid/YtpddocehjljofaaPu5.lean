/- The document's tables (cassoneref05): a sign is put, by a table or as likely as any. -/
import Derived.Test.YtpddocehjljofaaPq
import Derived.Test.YtpddocehjljofaaRef3
namespace Go.Proofs.Ytpddocehjljofaa
set_option linter.unusedVariables false
open Go.RowKit Go.My

theorem three_new (w : World) (a b c : Obj) : (((w.alloc a).alloc b).alloc c).heap[w.heap.size + 2]? = some c := by
  have h := heap_alloc_new ((w.alloc a).alloc b) c
  rw [show ((w.alloc a).alloc b).heap.size = w.heap.size + 2 by simp] at h
  exact h
theorem four_new (w : World) (a b c d : Obj) : ((((w.alloc a).alloc b).alloc c).alloc d).heap[w.heap.size + 3]? = some d := by
  have h := heap_alloc_new (((w.alloc a).alloc b).alloc c) d
  rw [show (((w.alloc a).alloc b).alloc c).heap.size = w.heap.size + 3 by simp] at h
  exact h
theorem load_bools (w : World) (b : Nat) (f : Nat → Bool) (h : w.heap[b]? = some (.cells (boolArr f) 100 (0, 0))) : (loadVar 100 ⟨b, 0, none⟩).run Try.prog w = .ok (.agg (boolArr f)) w :=
  run_loadVar_row _ _ _ _ _ _ _ h Try.underlying100 rfl (by rw [boolArr_size]; kernel_rfl)

set_option maxHeartbeats 4000000 in
set_option maxRecDepth 100000 in
theorem ref_tab_put (e0 : Value) (a : Rc.A) (r : Value) (t : Fq.T) (x : UInt8) (f : Nat → Bool) (w : World) (hA : RefA w e0 a) (hg : a.Good) (hk : a.k ≤ 100000000) (h : RTab w r t) (hOk : t.Ok) :
    Calls Try.prog 58 #[e0, r, .int .u8 (x.toNat : Int), .agg (boolArr f)] w fun e w' => ∃ e1, e = .returned (.tuple #[e1, .bool (t.isIn x (bySign f))]) ∧ RefA w' e1 (a.step (t.putOp x (bySign f))) ∧ Fr (fun _ => False) w w' ∧ (∀ g, rowOf e1 = some g → rowOf e0 = some g ∨ w.heap.size ≤ g) := by
  obtain ⟨p, cap, Lx, S, hown, rfl, hrel⟩ := hA.ex
  obtain ⟨A1, k1, A2, k2, rfl, hos, hoc⟩ := h.ex
  have hfine := Fq.T.putOp_fine hOk x (bySign f)
  rw [Fq.T.putOp_nums] at hfine ⊢
  have hstep : a.step (.part (t.nums x (bySign f)).1 (t.nums x (bySign f)).2.1 (t.nums x (bySign f)).2.2) = a.part (t.nums x (bySign f)).1 (t.nums x (bySign f)).2.1 (t.nums x (bySign f)).2.2 := rfl
  rw [hstep]
  have hfine2 : Rc.PtOk (t.nums x (bySign f)).1 (t.nums x (bySign f)).2.1 (t.nums x (bySign f)).2.2 := hfine
  have hpt := fun W hW => ref_tab_part (.agg #[.slice A1 t.s.length k1, .slice A2 t.c.length k2]) t x f W hW hOk
  obtain ⟨⟨na, nb, nc⟩, hnn⟩ : ∃ q, t.nums x (bySign f) = q := ⟨_, rfl⟩
  obtain ⟨ok, hok⟩ : ∃ b, t.isIn x (bySign f) = b := ⟨_, rfl⟩
  rw [hnn] at hfine2 hpt ⊢
  rw [hok] at hpt ⊢
  dsimp only at hfine2 hpt ⊢
  obtain ⟨z, hz⟩ : ∃ z, x.toNat = z := ⟨_, rfl⟩
  rw [hz] at hpt ⊢
  have hpr := fun W hW => ref_part (.agg #[.slice p Lx.length cap, .int .u64 (S : Int)]) a na nb nc W hW hg hk hfine2
  obtain ⟨EO, hEO⟩ : ∃ o, (Obj.cells #[.slice p Lx.length cap, .int .u64 (S : Int)] 29) = o := ⟨_, rfl⟩
  have hb0 := block_alloc (x := .cells #[.slice none 0 0, .int .u64 0] 29) (block_alloc (x := .cells (boolArr f) 100) (block_alloc (x := .cells #[.slice A1 t.s.length k1, .slice A2 t.c.length k2] 89) (heap_alloc_new w (.cells #[.slice p Lx.length cap, .int .u64 (S : Int)] 29))))
  have hb1 := block_alloc (x := .cells #[.slice none 0 0, .int .u64 0] 29) (block_alloc (x := .cells (boolArr f) 100) (two_new w (.cells #[.slice p Lx.length cap, .int .u64 (S : Int)] 29) (.cells #[.slice A1 t.s.length k1, .slice A2 t.c.length k2] 89)))
  have hb2 := block_alloc (x := .cells #[.slice none 0 0, .int .u64 0] 29) (three_new w (.cells #[.slice p Lx.length cap, .int .u64 (S : Int)] 29) (.cells #[.slice A1 t.s.length k1, .slice A2 t.c.length k2] 89) (.cells (boolArr f) 100))
  have hb3 := four_new w (.cells #[.slice p Lx.length cap, .int .u64 (S : Int)] 29) (.cells #[.slice A1 t.s.length k1, .slice A2 t.c.length k2] 89) (.cells (boolArr f) 100) (.cells #[.slice none 0 0, .int .u64 0] 29)
  have hF : Fr (fun _ => False) w ((((w.alloc (.cells #[.slice p Lx.length cap, .int .u64 (S : Int)] 29)).alloc (.cells #[.slice A1 t.s.length k1, .slice A2 t.c.length k2] 89)).alloc (.cells (boolArr f) 100)).alloc (.cells #[.slice none 0 0, .int .u64 0] 29)) := ((((Fr.refl _ w).alloc _).alloc _).alloc _).alloc _
  obtain ⟨W, hW⟩ : ∃ W, (((w.alloc (.cells #[.slice p Lx.length cap, .int .u64 (S : Int)] 29)).alloc (.cells #[.slice A1 t.s.length k1, .slice A2 t.c.length k2] 89)).alloc (.cells (boolArr f) 100)).alloc (.cells #[.slice none 0 0, .int .u64 0] 29) = W := ⟨_, rfl⟩
  rw [hW] at hb0 hb1 hb2 hb3 hF
  have hR1 := load_bools W _ f hb2
  obtain ⟨BA, hBA⟩ : ∃ BA, boolArr f = BA := ⟨_, rfl⟩
  rw [hBA] at hpt hb2 hR1 hW ⊢
  have c0 : W.cell? ⟨w.heap.size + 1, 0, none⟩ = some (.slice A1 t.s.length k1) := (cell_of hb1 0).trans rfl
  have c1 : W.cell? ⟨w.heap.size + 1, 1, none⟩ = some (.slice A2 t.c.length k2) := (cell_of hb1 1).trans rfl
  have hpt1 := hpt W (h.keep hF)
  have HPt := Lib.hid hpt1
  have HPr := Lib.hid hpr
  have HR1 := Lib.hid hR1
  have HB0 := Lib.hid hb0
  have HB3 := Lib.hid hb3
  have HF := Lib.hid hF
  have HA := Lib.hid hA
  clear hA hg hk h hOk hown hrel hos hoc hfine hstep hfine2 hpt hnn hok hz hpr hb0 hb1 hb2 hb3 hF hR1 hBA hpt1 hEO
  go_enter Try.func58, Try.ntmps58
  go_upto_region 1 with fail
  clear hW
  go_upto_region 2 with (first
    | (refine wpList_load_arr rfl 100 _ rfl rfl HR1.out ?_)
    | (go_at_call 79; refine HPt.out.mono ?_; rintro e w4 ⟨rfl, h⟩; have HF4 := Lib.hid (HF.out.trans h (fun _ h => h.elim)); have HB04 := Lib.hid (h.keep HB0.out (fun x => x)); have HB34 := Lib.hid (h.keep HB3.out (fun x => x)); clear h))
  clear c0 c1 HB0 HB3 HPt HR1
  have d0 : w4.cell? ⟨w.heap.size, 0, none⟩ = some (.slice p Lx.length cap) := (cell_of HB04.out 0).trans rfl
  have d1 : w4.cell? ⟨w.heap.size, 1, none⟩ = some (.int .u64 (S : Int)) := (cell_of HB04.out 1).trans rfl
  have hpr := HPr.out w4 (HA.out.keep HF4.out)
  have HPr4 := Lib.hid hpr
  clear hpr HPr
  go_wp2_with (go_at_call 19; refine HPr4.out.mono ?_; rintro e w5 ⟨r5, rfl, hA5, hf5, hrow⟩; have hh := hA5.ex; obtain ⟨q, qc, LL, SS, ho5, rfl, hrel5⟩ := hh; have HA5 := Lib.hid hA5; have HF5 := Lib.hid (HF4.out.trans hf5 (fun _ h => h.elim)); have HB35 := Lib.hid (hf5.keep HB34.out (fun x => x)); have HRow : Hid (∀ g, rowOf (.agg #[.slice q LL.length qc, .int .u64 (SS : Int)]) = some g → rowOf (.agg #[.slice p Lx.length cap, .int .u64 (S : Int)]) = some g ∨ w.heap.size ≤ g) := (fun g hg => (hrow g hg).imp id (fun h => Nat.le_trans HF4.out.size h)); have z0 : w5.cell? ⟨w.heap.size + 3, 0, none⟩ = some (.slice none 0 0) := (cell_of HB35.out 0).trans rfl; have z1 : w5.cell? ⟨w.heap.size + 3, 1, none⟩ = some (.int .u64 0) := (cell_of HB35.out 1).trans rfl; have zf0 := free_of HB35.out 0; have zf1 := free_of HB35.out 1; clear hA5 hf5 hrow ho5 hrel5)
  refine bodyPost_ret (v := .tuple #[.agg #[.slice q LL.length qc, .int .u64 (SS : Int)], .bool ok]) ?_ rfl ?_
  · simp [results, Try.results58, go_sem, z0, z1]
  · exact ⟨_, rfl, (HA5.out.store HB35.out 0 _).store (block_setCell HB35.out _ (off := 0)) 1 _, (HF5.out.setCell _ _ (.inr (by dsimp only; omega))).setCell _ _ (.inr (by dsimp only; omega)), HRow.out⟩

theorem below_step (f : Nat → Bool) (k : Nat) : Fq.below f (k + 1) = if f k then Fq.below f k else Fq.below f k + 1 := rfl
theorem boolArr_at (f : Nat → Bool) (y : Nat) (h : y < 256) : (boolArr f)[y]? = some (.bool (f y)) := boolArr_get f y h

set_option maxHeartbeats 4000000 in
set_option maxRecDepth 100000 in
theorem ref_put_any (e0 : Value) (a : Rc.A) (x : UInt8) (f : Nat → Bool) (hx : f x.toNat = false) (w : World) (hA : RefA w e0 a) (hg : a.Good) (hk : a.k ≤ 100000000) :
    Calls Try.prog 57 #[e0, .int .u8 (x.toNat : Int), .agg (boolArr f)] w fun e w' => ∃ e1, e = .returned e1 ∧ RefA w' e1 (a.step (Fq.anyOp x f)) ∧ Fr (fun _ => False) w w' ∧ (∀ g, rowOf e1 = some g → rowOf e0 = some g ∨ w.heap.size ≤ g) := by
  obtain ⟨p, cap, Lx, S, hown, rfl, hrel⟩ := hA.ex
  have hfine : Rc.PtOk (Fq.below f x.toNat) 1 (Fq.below f 256) := Fq.anyOp_fine x f hx
  have hstep : a.step (Fq.anyOp x f) = a.part (Fq.below f x.toNat) 1 (Fq.below f 256) := rfl
  rw [hstep]
  have hz2 := x.toNat_lt
  obtain ⟨z, hz⟩ : ∃ z, x.toNat = z := ⟨_, rfl⟩
  rw [hz] at hfine hz2 ⊢
  have hzi : (z : Int) < 256 := by omega
  have hpr := fun W hW => ref_part (.agg #[.slice p Lx.length cap, .int .u64 (S : Int)]) a (Fq.below f z) 1 (Fq.below f 256) W hW hg hk hfine
  have hbl : ∀ k, Fq.below f k ≤ k := Fq.below_le f
  have hbs := below_step f
  have hget : ∀ k, k < 256 → (boolArr f)[k]? = some (.bool (f k)) := fun k h => boolArr_at f k h
  obtain ⟨BL, hBL⟩ : ∃ b, Fq.below f = b := ⟨_, rfl⟩
  have hb00 : BL 0 = 0 := by rw [← hBL]; rfl
  rw [hBL] at hpr hbl hbs ⊢
  have hb0 := block_alloc (x := .cells #[.slice none 0 0, .int .u64 0] 29) (block_alloc (x := .cells (boolArr f) 100) (heap_alloc_new w (.cells #[.slice p Lx.length cap, .int .u64 (S : Int)] 29)))
  have hb1 := block_alloc (x := .cells #[.slice none 0 0, .int .u64 0] 29) (two_new w (.cells #[.slice p Lx.length cap, .int .u64 (S : Int)] 29) (.cells (boolArr f) 100))
  have hb3 := three_new w (.cells #[.slice p Lx.length cap, .int .u64 (S : Int)] 29) (.cells (boolArr f) 100) (.cells #[.slice none 0 0, .int .u64 0] 29)
  have hF : Fr (fun _ => False) w (((w.alloc (.cells #[.slice p Lx.length cap, .int .u64 (S : Int)] 29)).alloc (.cells (boolArr f) 100)).alloc (.cells #[.slice none 0 0, .int .u64 0] 29)) := (((Fr.refl _ w).alloc _).alloc _).alloc _
  obtain ⟨W, hW⟩ : ∃ W, ((w.alloc (.cells #[.slice p Lx.length cap, .int .u64 (S : Int)] 29)).alloc (.cells (boolArr f) 100)).alloc (.cells #[.slice none 0 0, .int .u64 0] 29) = W := ⟨_, rfl⟩
  rw [hW] at hb0 hb1 hb3 hF
  obtain ⟨BA, hBA⟩ : ∃ BA, boolArr f = BA := ⟨_, rfl⟩
  rw [hBA] at hb1 hW hget ⊢
  have hprW := hpr W (hA.keep hF)
  have HPr := Lib.hid hprW
  have HB0 := Lib.hid hb0
  have HB1 := Lib.hid hb1
  have HB3 := Lib.hid hb3
  have HF := Lib.hid hF
  have Hget := Lib.hid hget
  have Hbl := Lib.hid hbl
  have Hbs := Lib.hid hbs
  have Hb00 := Lib.hid hb00
  clear hA hg hk hown hrel hfine hstep hz hpr hb0 hb1 hb3 hF hBA hprW hget hbl hbs hBL hx hz2 hb00
  go_enter Try.func57, Try.ntmps57
  go_upto_region 1 with fail
  clear hW
  go_upto_block 0 with fail
  go_cut [7, 8, 9] (fun v7 v8 _ wx => v7 = .int .i64 ((BL z : Nat) : Int) ∧ v8 = .int .i64 ((BL 256 : Nat) : Int) ∧ wx = W)
  case first =>
    go_wp2
    go_loop [7, 8, 9] (fun v7 v8 v9 => ∃ i : Nat, i ≤ 256 ∧ v9 = .int .i64 (i : Int) ∧ v7 = .int .i64 ((BL (min i z) : Nat) : Int) ∧ v8 = .int .i64 ((BL i : Nat) : Int)) (fun _ _ v9 => 256 - (intOf v9).toNat)
    case atStart => exact ⟨0, Nat.zero_le _, rfl, by rw [Nat.zero_min, Hb00.out]; rfl, by rw [Hb00.out]; rfl⟩
    case round =>
      obtain ⟨i, hi, rfl, rfl, rfl⟩ := hrel
      have hb1 := Hbl.out i
      have hb2 := Hbl.out (min i z)
      have hs1 := Hbs.out i
      have hs2 := Hbs.out (min i z)
      by_cases hlt : i < 256
      · have hiI : (i : Int) < 256 := by omega
        have hi0 : (0 : Int) ≤ (i : Int) := by omega
        have x1 : W.cell? ⟨w.heap.size + 1, i, none⟩ = some (.bool (f i)) := (cell_of HB1.out i).trans (Hget.out i hlt)
        have e8 : IntKind.i64.wrap ((BL i : Int) + 1) = ((BL i + 1 : Nat) : Int) := by rw [IntWalk.i64_in _ (by omega)]; omega
        have e7 : IntKind.i64.wrap ((BL (min i z) : Int) + 1) = ((BL (min i z) + 1 : Nat) : Int) := by rw [IntWalk.i64_in _ (by omega)]; omega
        rcases hfi : f i with _ | _
        · rw [hfi] at x1 hs1
          have h8 : BL (i + 1) = BL i + 1 := by rw [hs1]; rfl
          by_cases hiz : i < z
          · have hm : min i z = i := by omega
            have hm1 : min (i + 1) z = i + 1 := by omega
            rw [hm] at hs2 e7 ⊢
            have hizI : (i : Int) < (z : Int) := by omega
            have H8 := Lib.hid h8
            have Hm1 := Lib.hid hm1
            clear hs1 hs2 h8 hm hm1 hb2 hfi e7
            obtain ⟨B1, hB1⟩ : ∃ b, BL i = b := ⟨_, rfl⟩
            rw [hB1] at hb1 e8 H8 ⊢
            clear hB1
            go_wp2
            go_round
            case rel => exact ⟨i + 1, by omega, by go_num, by rw [Hm1.out, H8.out]; first | rfl | go_num, by rw [H8.out]; first | rfl | go_num⟩
            case measure => simp [intOf]; omega
          · have hm : min i z = z := by omega
            have hm1 : min (i + 1) z = z := by omega
            rw [hm] at hs2 e7 ⊢
            have hizI : ¬ (i : Int) < (z : Int) := by omega
            have H8 := Lib.hid h8
            have Hm1 := Lib.hid hm1
            clear hs1 hs2 h8 hm hm1 hb2 hfi e7
            obtain ⟨B1, hB1⟩ : ∃ b, BL i = b := ⟨_, rfl⟩
            rw [hB1] at hb1 e8 H8 ⊢
            clear hB1
            go_wp2
            go_round
            case rel => exact ⟨i + 1, by omega, by go_num, by rw [Hm1.out], by rw [H8.out]; first | rfl | go_num⟩
            case measure => simp [intOf]; omega
        · rw [hfi] at x1 hs1
          have h8 : BL (i + 1) = BL i := by rw [hs1]; rfl
          have hm : BL (min (i + 1) z) = BL (min i z) := by
            rcases Nat.lt_or_ge i z with h | h
            · rw [show min (i + 1) z = i + 1 by omega, show min i z = i by omega, h8]
            · rw [show min (i + 1) z = z by omega, show min i z = z by omega]
          have H8 := Lib.hid h8
          have Hm := Lib.hid hm
          clear hs1 hs2 h8 hm hfi e7 e8
          go_wp2
          go_round
          case rel => exact ⟨i + 1, by omega, by go_num, by rw [Hm.out], by rw [H8.out]⟩
          case measure => simp [intOf]; omega
      · obtain rfl : i = 256 := by omega
        have hm : min 256 z = z := by omega
        rw [hm]
        clear hm hs1 hs2 hlt hi hb1 hb2
        go_wp2
        go_meet
        exact ⟨rfl, rfl, rfl⟩
  case rest =>
    obtain ⟨rfl, rfl, hwc⟩ := hcut
    rw [hwc]
    clear hwc
    have hb1 := Hbl.out z
    have hb2 := Hbl.out 256
    obtain ⟨P, hP⟩ : ∃ b, BL z = b := ⟨_, rfl⟩
    obtain ⟨Q, hQ⟩ : ∃ b, BL 256 = b := ⟨_, rfl⟩
    rw [hP] at hb1
    rw [hQ] at hb2
    rw [hP, hQ] at HPr
    rw [hP, hQ]
    obtain ⟨TA, hTA⟩ : ∃ q, a.part P 1 Q = q := ⟨_, rfl⟩
    rw [hTA] at HPr
    have d0 : W.cell? ⟨w.heap.size, 0, none⟩ = some (.slice p Lx.length cap) := (cell_of HB0.out 0).trans rfl
    have d1 : W.cell? ⟨w.heap.size, 1, none⟩ = some (.int .u64 (S : Int)) := (cell_of HB0.out 1).trans rfl
    have HP := Lib.hid hP
    have HQ := Lib.hid hQ
    have HTA := Lib.hid hTA
    have u1 : IntKind.u64.wrap (P : Int) = (P : Int) := IntWalk.u64_in _ (by omega)
    have u2 : IntKind.u64.wrap (Q : Int) = (Q : Int) := IntWalk.u64_in _ (by omega)
    have hPi : (P : Int) ≤ 256 := by omega
    have hQi : (Q : Int) ≤ 256 := by omega
    clear hP hQ hTA hb1 hb2
    go_wp2_with (go_at_call 19; refine HPr.out.mono ?_; rintro e w5 ⟨r5, rfl, hA5, hf5, hrow⟩; have hh := hA5.ex; obtain ⟨q, qc, LL, SS, ho5, rfl, hrel5⟩ := hh; have HA5 := Lib.hid hA5; have HF5 := Lib.hid (HF.out.trans hf5 (fun _ h => h.elim)); have HB35 := Lib.hid (hf5.keep HB3.out (fun x => x)); have HRow : Hid (∀ g, rowOf (.agg #[.slice q LL.length qc, .int .u64 (SS : Int)]) = some g → rowOf (.agg #[.slice p Lx.length cap, .int .u64 (S : Int)]) = some g ∨ w.heap.size ≤ g) := (fun g hg => (hrow g hg).imp id (fun h => Nat.le_trans HF.out.size h)); have z0 : w5.cell? ⟨w.heap.size + 2, 0, none⟩ = some (.slice none 0 0) := (cell_of HB35.out 0).trans rfl; have z1 : w5.cell? ⟨w.heap.size + 2, 1, none⟩ = some (.int .u64 0) := (cell_of HB35.out 1).trans rfl; have zf0 := free_of HB35.out 0; have zf1 := free_of HB35.out 1; clear hA5 hf5 hrow ho5 hrel5)
    refine bodyPost_ret (v := .agg #[.slice q LL.length qc, .int .u64 (SS : Int)]) ?_ rfl ?_
    · simp [results, Try.results57, go_sem, z0, z1]
    · exact ⟨_, rfl, by rw [HP.out, HQ.out, HTA.out]; exact (HA5.out.store HB35.out 0 _).store (block_setCell HB35.out _ (off := 0)) 1 _, (HF5.out.setCell _ _ (.inr (by dsimp only; omega))).setCell _ _ (.inr (by dsimp only; omega)), HRow.out⟩
end Go.Proofs.Ytpddocehjljofaa
