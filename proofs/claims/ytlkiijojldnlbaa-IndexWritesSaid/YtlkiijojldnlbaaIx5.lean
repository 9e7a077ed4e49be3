/- Layer 27 (index): one entry encoded. -/
import Derived.Test.YtlkiijojldnlbaaIx4
import Derived.Test.YtlkiijojldnlbaaQt
namespace Go.Proofs.Ytlkiijojldnlbaa
set_option linter.unusedVariables false
open Go.RowKit Go.My Go.Ix

set_option maxHeartbeats 4000000 in
set_option maxRecDepth 100000 in
theorem good_one (g : Nat) (X Y : ByteArray) (hX : X.size ≤ 1000) (hY : Y.size ≤ 1000) (w : World) (c0 : w.cell? ⟨g, 0, none⟩ = some (.string X)) (c1 : w.cell? ⟨g, 1, none⟩ = some (.string Y)) :
    Calls Try.prog 30 #[.slice (some ⟨g, 0, none⟩) 1 1] w fun e w' => e = .returned (.bool true) ∧ Fr (fun _ => False) w w' := by
  have hXI : ¬ (1024 : Int) < (X.size : Int) := by omega
  have hYI : ¬ (16777216 : Int) < (Y.size : Int) := by omega
  have hYb : (Y.size : Int) ≤ 1000 := by omega
  go_enter Try.func30, Try.ntmps30
  go_upto_region 3 with fail
  go_wp2
  go_loopw [3, 5, 8] (fun v3 _ v8 wr => Hid (Fr (fun _ => False) w wr) ∧ ((v8 = .int .i64 0 ∧ v3 = .int .i64 0) ∨ (v8 = .int .i64 1 ∧ v3 = .int .i64 (Y.size : Int)))) (fun _ _ v8 _ => 1 - (intOf v8).toNat)
  case atStart => exact ⟨Fr.refl _ _, .inl ⟨rfl, rfl⟩⟩
  case round =>
    obtain ⟨KF, ⟨rfl, rfl⟩ | ⟨rfl, rfl⟩⟩ := hrel
    · have k0 := KF.out.cell_ c0 (fun x => x)
      have k1 := KF.out.cell_ c1 (fun x => x)
      go_wp2
      go_roundw
      case rel => exact ⟨KF.out.alloc _, .inr ⟨rfl, rfl⟩⟩
      case measure => simp [intOf]
    · go_wp2
      go_ret
      exact ⟨rfl, KF.out⟩

theorem fr_below {B : Nat} {a b : World} (h : Below B a b) : Fr (fun k => B ≤ k) a b := ⟨h.os, h.tape, h.output, h.size, fun k hk hs => h.block k (Nat.lt_of_not_le hs)⟩
theorem bld_keep {B b : Nat} {bs : List Value} {w w' : World} (h : Lib.IsBuilder 79 5 B b bs w) (hf : Fr (fun _ => False) w w') : Lib.IsBuilder 79 5 B b bs w' := by
  rcases h with ⟨h1, v, h2, h3, h4⟩ | ⟨h1, v, h2, h3, h4⟩
  · exact .inl ⟨h1, v, hf.keep h2 (fun x => x), own_keep h3 hf (fun _ _ x => x), h4⟩
  · exact .inr ⟨h1, v, hf.keep h2 (fun x => x), own_keep h3 hf (fun _ _ x => x), h4⟩
theorem bld_str (s : ByteArray) : Lib.strCells s = Lib.byteCells s.data.toList := Lib.strCells_eq s

set_option maxHeartbeats 8000000 in
set_option maxRecDepth 100000 in
theorem encode_one (g : Nat) (X Y : ByteArray) (hX : X.size ≤ 1000) (hY : Y.size ≤ 1000) (w : World) (c0 : w.cell? ⟨g, 0, none⟩ = some (.string X)) (c1 : w.cell? ⟨g, 1, none⟩ = some (.string Y)) :
    Calls Try.prog 19 #[.slice (some ⟨g, 0, none⟩) 1 1] w fun e w' => e = .returned (.tuple #[.string ⟨(lb 1 4 ++ (lb X.size 2 ++ X.data.toList ++ lb Y.size 4)).toArray⟩, .int .i64 0]) ∧ Fr (fun _ => False) w w' := by
  have hgd := good_one g X Y hX hY w c0 c1
  have hn1 : ∀ U, Calls Try.prog 32 #[.int .i64 1, .int .i64 4] U fun e w' => e = .returned (.string ⟨(lb 1 4).toArray⟩) ∧ Fr (fun _ => False) U w' := fun U => idxNumber_is 1 4 (by decide) (by decide) U
  have hn2 : ∀ U, Calls Try.prog 32 #[.int .i64 (X.size : Int), .int .i64 2] U fun e w' => e = .returned (.string ⟨(lb X.size 2).toArray⟩) ∧ Fr (fun _ => False) U w' := fun U => idxNumber_is X.size 2 (by omega) (by decide) U
  have hn3 : ∀ U, Calls Try.prog 32 #[.int .i64 (Y.size : Int), .int .i64 4] U fun e w' => e = .returned (.string ⟨(lb Y.size 4).toArray⟩) ∧ Fr (fun _ => False) U w' := fun U => idxNumber_is Y.size 4 (by omega) (by decide) U
  obtain ⟨N1, hN1⟩ : ∃ l, lb 1 4 = l := ⟨_, rfl⟩
  obtain ⟨N2, hN2⟩ : ∃ l, lb X.size 2 = l := ⟨_, rfl⟩
  obtain ⟨N3, hN3⟩ : ∃ l, lb Y.size 4 = l := ⟨_, rfl⟩
  have hl1 : N1.length = 4 := by rw [← hN1, lb_length]
  have hl2 : N2.length = 2 := by rw [← hN2, lb_length]
  have hl3 : N3.length = 4 := by rw [← hN3, lb_length]
  rw [hN1] at hn1 ⊢
  rw [hN2] at hn2 ⊢
  rw [hN3] at hn3 ⊢
  obtain ⟨S1, hS1⟩ : ∃ S : ByteArray, (⟨N1.toArray⟩ : ByteArray) = S := ⟨_, rfl⟩
  obtain ⟨S2, hS2⟩ : ∃ S : ByteArray, (⟨N2.toArray⟩ : ByteArray) = S := ⟨_, rfl⟩
  obtain ⟨S3, hS3⟩ : ∃ S : ByteArray, (⟨N3.toArray⟩ : ByteArray) = S := ⟨_, rfl⟩
  rw [hS1] at hn1
  rw [hS2] at hn2
  rw [hS3] at hn3
  have z1 : S1.size = 4 := by rw [← hS1]; exact hl1
  have z2 : S2.size = 2 := by rw [← hS2]; exact hl2
  have z3 : S3.size = 4 := by rw [← hS3]; exact hl3
  obtain ⟨SA, hSA⟩ : ∃ S : ByteArray, S2 ++ X = S := ⟨_, rfl⟩
  obtain ⟨SB, hSB⟩ : ∃ S : ByteArray, SA ++ S3 = S := ⟨_, rfl⟩
  have ad1 := fun U => run_string_add_sum (P := Try.prog) U S2 X (by omega)
  rw [hSA] at ad1
  have zA : SA.size = 2 + X.size := by rw [← hSA, ByteArray.size_append, z2]
  have ad2 := fun U => run_string_add_sum (P := Try.prog) U SA S3 (by omega)
  rw [hSB] at ad2
  have zB : SB.size = 6 + X.size := by rw [← hSB, ByteArray.size_append, zA, z3]; omega
  have hlB : SB.data.toList = N2 ++ X.data.toList ++ N3 := by rw [← hSB, ← hSA, ← hS2, ← hS3]; simp
  have hlA : S1.data.toList = N1 := by rw [← hS1]
  have HGd := Lib.hid hgd
  have HN1 := Lib.hid hn1
  have HN2 := Lib.hid hn2
  have HN3 := Lib.hid hn3
  have HlA := Lib.hid hlA
  have HlB := Lib.hid hlB
  clear hgd hn1 hn2 hn3 hN1 hN2 hN3 hS1 hS2 hS3 hSA hSB hlA hlB
  go_enter Try.func19, Try.ntmps19
  go_upto_region 4 with (go_at_call 30; refine HGd.out.mono ?_; rintro e w1 ⟨rfl, h⟩; have F1 := Lib.hid h; clear h)
  have hbl := Lib.fresh_isBuilder 79 5 w1
  obtain ⟨B, hB⟩ : ∃ B, w1.heap.size = B := ⟨_, rfl⟩
  have hf2 : Fr (fun k => B ≤ k) w1 (w1.alloc (.cells #[.pointer none, .slice none 0 0] 79)) := (Fr.refl _ w1).alloc _
  obtain ⟨W, hW⟩ : ∃ W, w1.alloc (.cells #[.pointer none, .slice none 0 0] 79) = W := ⟨_, rfl⟩
  rw [hB, hW] at hbl
  rw [hW] at hf2
  rw [hW, hB]
  have HBl := Lib.hid hbl
  have HF2 := Lib.hid hf2
  have HB := Lib.hid hB
  clear hbl hf2 hW hB HGd
  have hBw : B ≤ W.heap.size := by have := HF2.out.size; have := HB.out; omega
  have HBw := Lib.hid hBw
  clear hBw
  go_upto_region 5 with (first
    | (go_at_call 32; refine (HN1.out W).mono ?_; rintro e w3 ⟨rfl, h⟩; have B3 := Lib.hid (bld_keep HBl.out h); have F3 := Lib.hid (HF2.out.trans h (fun _ h => h.elim)); have Z3 : Hid (B ≤ w3.heap.size) := Lib.hid (Nat.le_trans HBw.out h.size); clear h)
    | (go_at_call 31; refine (writeString_is B B [] S1 w3 B3.out (by simp; omega) Z3.out).mono ?_; rintro e w4 ⟨rfl, h1, h2⟩; have B4 : Hid (Lib.IsBuilder 79 5 B B (Lib.byteCells N1) w4) := Lib.hid (.inr (by rw [List.nil_append, bld_str, HlA.out] at h1; exact h1)); have F4 := Lib.hid (F3.out.trans h2 (fun _ h => .inl h)); clear h1 h2))
  clear HN1 HBl HF2 HBw B3 F3 Z3
  go_wp2
  go_loopw [6, 16] (fun _ v16 wr => Hid (Fr (fun k => B ≤ k) w1 wr) ∧ ((v16 = .int .i64 0 ∧ Hid (Lib.IsBuilder 79 5 B B (Lib.byteCells N1) wr)) ∨ (v16 = .int .i64 1 ∧ Hid (Lib.IsBuilder 79 5 B B (Lib.byteCells (N1 ++ (N2 ++ X.data.toList ++ N3))) wr)))) (fun _ v16 _ => 1 - (intOf v16).toNat)
  case atStart => exact ⟨F4, .inl ⟨rfl, B4⟩⟩
  case round =>
    obtain ⟨KF, ⟨rfl, KB⟩ | ⟨rfl, KB⟩⟩ := hrel
    · have hgl : g < B := by
        rw [← HB.out]
        exact Nat.lt_of_lt_of_le (World.block_lt_of_cell? (a := ⟨g, 0, none⟩) _ c0) F1.out.size
      have k0 := KF.out.cell_ (F1.out.cell_ c0 (fun x => x)) (by show ¬ (B ≤ g); omega)
      have k1 := KF.out.cell_ (F1.out.cell_ c1 (fun x => x)) (by show ¬ (B ≤ g); omega)
      go_upto_region 8 with fail
      have hst : ∃ W8 xb, wr.alloc (.cells #[.string X, .string Y] 54) = W8 ∧ wr.heap.size = xb ∧ Fr (fun k => B ≤ k) w1 W8 ∧ Lib.IsBuilder 79 5 B B (Lib.byteCells N1) W8 ∧ W8.heap[xb]? = some (.cells #[.string X, .string Y] 54 (0, 0)) :=
        ⟨_, _, rfl, rfl, KF.out.alloc _, bld_keep KB.out ((Fr.refl (fun _ => False) wr).alloc _), heap_alloc_new wr _⟩
      obtain ⟨W8, xb, hW8, hxb, hf8, hb8, hx8⟩ := hst
      rw [hW8, hxb]
      have q0 : ∀ u : InW (Fr (fun _ => False) W8.drew), u.to.cell? ⟨xb, 0, none⟩ = some (.string X) := fun u => u.ok.cell_ (w := W8.drew) ((cell_of (w := W8.drew) hx8 0).trans rfl) (fun x => x)
      have q1 : ∀ u : InW (Fr (fun _ => False) W8.drew), u.to.cell? ⟨xb, 1, none⟩ = some (.string Y) := fun u => u.ok.cell_ (w := W8.drew) ((cell_of (w := W8.drew) hx8 1).trans rfl) (fun x => x)
      have BB := Lib.hid hb8
      have FF := Lib.hid hf8
      clear hW8 hxb hf8 hb8 hx8 k0 k1 KF KB hgl
      refine wp_region_in_tail (Fr (fun _ => False) W8.drew) 12 (by kernel_rfl) (by kernel_rfl) (Fr.refl _ _) ?_
      simp only [List.take_succ_cons, List.take_zero, List.drop_succ_cons, List.drop_zero]
      repeat (go_big_quiet_step ((go_at_call 32; first | (with_reducible exact Calls.fr_of (HN2.out _)) | (with_reducible exact Calls.fr_of (HN3.out _)))))
      refine wpQuiet_nil ?_
      intro w5 h5
      replace h5 := in_open h5
      have B5 : Hid (Lib.IsBuilder 79 5 B B (Lib.byteCells N1) w5) := Lib.hid (bld_keep (w := W8.drew) BB.out h5)
      have F5 : Hid (Fr (fun k => B ≤ k) w1 w5) := Lib.hid ((FF.out.drew).trans h5 (fun _ h => h.elim))
      clear BB FF q0 q1 h5
      go_wp2_with (go_at_call 31; refine (writeString_is B B (Lib.byteCells N1) SB _ B5.out (by rw [Lib.byteCells_length]; omega) (by have := F5.out.size; have := HB.out; omega)).mono ?_; rintro e w6 ⟨rfl, h1, h2⟩; have B6 : Hid (Lib.IsBuilder 79 5 B B (Lib.byteCells (N1 ++ (N2 ++ X.data.toList ++ N3))) w6) := Lib.hid (.inr (by rw [bld_str, HlB.out, ← Lib.byteCells_append] at h1; exact h1)); have F6 := Lib.hid (F5.out.trans h2 (fun _ h => .inl h)); clear h1 h2)
      all_goals go_wp2
      all_goals go_roundw
      all_goals first
        | exact ⟨F6, .inr ⟨rfl, B6⟩⟩
        | (simp [intOf]; done)
    · go_wp2_with (go_at_call 33; refine (bldString_is B B (N1 ++ (N2 ++ X.data.toList ++ N3)) wr KB.out (by intro h; have := congrArg List.length h; simp [hl1] at this)).mono ?_; rintro e w7 ⟨rfl, h⟩; have F7 := Lib.hid (KF.out.trans (fr_below h) (fun _ h => .inl h)); clear h)
      go_ret2
      exact ⟨by first | rfl | (simp only [List.append_assoc]; rfl) | (rw [List.append_assoc N2]; rfl), F1.out.trans F7.out (fun k hk => .inr (by have := F1.out.size; have := HB.out; have : B ≤ k := hk; omega))⟩
end Go.Proofs.Ytlkiijojldnlbaa
