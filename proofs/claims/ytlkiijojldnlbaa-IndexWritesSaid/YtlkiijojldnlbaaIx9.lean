/- Layer 27 (index): Encode of any entries. -/
import Derived.Test.YtlkiijojldnlbaaIx8
import Derived.Test.YtlkiijojldnlbaaQt
namespace Go.Proofs.Ytlkiijojldnlbaa
set_option linter.unusedVariables false
open Go.RowKit Go.My Go.Ix

def enc1 (x : List UInt8 × List UInt8) : List UInt8 := lb x.1.length 2 ++ x.1 ++ lb x.2.length 4
def encTo (L : Ents) (i : Nat) : List UInt8 := lb L.length 4 ++ (L.take i).flatMap enc1
def encL (L : Ents) : List UInt8 := lb L.length 4 ++ L.flatMap enc1
theorem encTo_zero (L : Ents) : encTo L 0 = lb L.length 4 := by simp [encTo]
theorem encTo_all (L : Ents) : encTo L L.length = encL L := by simp [encTo, encL]
theorem encTo_succ (L : Ents) (i : Nat) (h : i < L.length) : encTo L (i + 1) = encTo L i ++ enc1 L[i] := by
  unfold encTo
  rw [List.take_succ_eq_append_getElem h, List.flatMap_append, List.append_assoc]
  simp
theorem enc1_length (x : List UInt8 × List UInt8) : (enc1 x).length = 6 + x.1.length := by
  unfold enc1
  rw [List.length_append, List.length_append, lb_length, lb_length]
  omega
theorem encTo_length (L : Ents) (hx : Small L) : ∀ i, i ≤ L.length → (encTo L i).length ≤ 4 + 2006 * i
  | 0, _ => by rw [encTo_zero, lb_length]; omega
  | i + 1, h => by
    rw [encTo_succ L i (by omega), List.length_append, enc1_length]
    have := encTo_length L hx i (by omega)
    have := (hx i (by omega)).1
    omega
theorem encTo_ne (L : Ents) (i : Nat) : encTo L i ≠ [] := by
  intro h
  have := congrArg List.length h
  simp [encTo, lb_length] at this

set_option maxHeartbeats 4000000 in
set_option maxRecDepth 100000 in
theorem encode_bad (L : Ents) (n : Nat) (hn : L.length = n) (hb : n ≤ 1100) (hx : Small L) (hbad : ¬ Gd L) (B : Nat) (v : Value) (w : World) (ho : w.ownsRow B 54 2 v n (entsV L)) :
    Calls Try.prog 19 #[v] w fun e w' => e = .returned (.tuple #[.string ⟨([] : List UInt8).toArray⟩, .int .i64 1]) ∧ Fr (fun _ => False) w w' := by
  have hgd := good_is L n hn hb hx false (by constructor; intro h; cases h; intro h; exact absurd h hbad) B v w ho
  have HGd := Lib.hid hgd
  clear hgd
  go_enter Try.func19, Try.ntmps19
  go_upto_region 2 with (go_at_call 30; refine HGd.out.mono ?_; rintro e w1 ⟨rfl, h⟩; have F1 := Lib.hid h; clear h)
  go_wp2
  go_ret2
  exact ⟨rfl, F1.out⟩

set_option maxHeartbeats 8000000 in
set_option maxRecDepth 100000 in
theorem encode_is (L : Ents) (n : Nat) (hn : L.length = n) (hx : Small L) (hok : Gd L) (B0 : Nat) (v : Value) (w : World) (ho : w.ownsRow B0 54 2 v n (entsV L)) :
    Calls Try.prog 19 #[v] w fun e w' => e = .returned (.tuple #[.string ⟨(encL L).toArray⟩, .int .i64 0]) ∧ Fr (fun _ => False) w w' := by
  have hb : n ≤ 1024 := by rw [← hn]; exact hok.2
  have hgd := good_is L n hn (by omega) hx true (by constructor; intro _; exact hok; intro _; rfl) B0 v w ho
  obtain ⟨a, p, hv⟩ := own_any ho
  subst hv
  have hn1 : ∀ U, Calls Try.prog 32 #[.int .i64 (n : Int), .int .i64 4] U fun e w' => e = .returned (.string ⟨(lb n 4).toArray⟩) ∧ Fr (fun _ => False) U w' := fun U => idxNumber_is n 4 (by omega) (by decide) U
  obtain ⟨N1, hN1⟩ : ∃ l, lb n 4 = l := ⟨_, rfl⟩
  have hl1 : N1.length = 4 := by rw [← hN1, lb_length]
  rw [hN1] at hn1
  obtain ⟨S1, hS1⟩ : ∃ S : ByteArray, (⟨N1.toArray⟩ : ByteArray) = S := ⟨_, rfl⟩
  rw [hS1] at hn1
  have z1 : S1.size = 4 := by rw [← hS1]; exact hl1
  have hlA : S1.data.toList = N1 := by rw [← hS1]
  have hT0 : encTo L 0 = N1 := by rw [encTo_zero, hn]; exact hN1
  have hTn : encTo L n = encL L := by rw [← hn]; exact encTo_all L
  have hbI : (n : Int) ≤ 1024 := by omega
  have HT0 := Lib.hid hT0
  have HTn := Lib.hid hTn
  have Hn := Lib.hid hn
  have Hx := Lib.hid hx
  have HGd := Lib.hid hgd
  have HN1 := Lib.hid hn1
  have HlA := Lib.hid hlA
  have Ho := Lib.hid ho
  clear hgd hn1 hN1 hS1 hlA hT0 hTn hn hx hok ho
  go_enter Try.func19, Try.ntmps19
  go_upto_region 4 with (go_at_call 30; refine HGd.out.mono ?_; rintro e w1 ⟨rfl, h⟩; have F1 := Lib.hid h; clear h)
  have ho1 := own_keep Ho.out F1.out (fun _ _ x => x)
  have Ho1 := Lib.hid ho1
  clear ho1
  have hbl := Lib.fresh_isBuilder 79 5 w1
  obtain ⟨B, hB⟩ : ∃ B, w1.heap.size = B := ⟨_, rfl⟩
  have hf2 : Fr (fun k => B ≤ k) w1 (w1.alloc (.cells #[.pointer none, .slice none 0 0] 79)) := (Fr.refl _ w1).alloc _
  obtain ⟨W, hW⟩ : ∃ W, w1.alloc (.cells #[.pointer none, .slice none 0 0] 79) = W := ⟨_, rfl⟩
  rw [hB, hW] at hbl
  rw [hW] at hf2
  rw [hW, hB]
  have HBl := Lib.hid hbl
  have HF2 := Lib.hid hf2
  have HB := Lib.hid hB
  clear hbl hf2 hW hB HGd
  have hBw : B ≤ W.heap.size := by have := HF2.out.size; have := HB.out; omega
  have HBw := Lib.hid hBw
  clear hBw
  go_upto_region 5 with (first
    | (go_at_call 32; refine (HN1.out W).mono ?_; rintro e w3 ⟨rfl, h⟩; have B3 := Lib.hid (bld_keep HBl.out h); have F3 := Lib.hid (HF2.out.trans h (fun _ h => h.elim)); have Z3 : Hid (B ≤ w3.heap.size) := Lib.hid (Nat.le_trans HBw.out h.size); clear h)
    | (go_at_call 31; refine (writeString_is B B [] S1 w3 B3.out (by simp; omega) Z3.out).mono ?_; rintro e w4 ⟨rfl, h1, h2⟩; have B4 : Hid (Lib.IsBuilder 79 5 B B (Lib.byteCells (encTo L 0)) w4) := Lib.hid (.inr (by rw [List.nil_append, bld_str, HlA.out, ← HT0.out] at h1; exact h1)); have F4 := Lib.hid (F3.out.trans h2 (fun _ h => .inl h)); clear h1 h2))
  clear HN1 HBl HF2 HBw B3 F3 Z3 HT0 HlA
  go_wp2
  go_loopw [6, 16] (fun _ v16 wr => ∃ i : Nat, i ≤ n ∧ v16 = .int .i64 (i : Int) ∧ Hid (Fr (fun k => B ≤ k) w1 wr) ∧ Hid (Lib.IsBuilder 79 5 B B (Lib.byteCells (encTo L i)) wr)) (fun _ v16 _ => n - (intOf v16).toNat)
  case atStart => exact ⟨0, Nat.zero_le _, rfl, F4, B4⟩
  case round =>
    clear F4 B4
    obtain ⟨i, hi, rfl, KF, KB⟩ := hrel
    by_cases hlt : i < n
    · have hI : (i : Int) < (n : Int) := by omega
      have hi0 : (0 : Int) ≤ (i : Int) := by omega
      have hkL : i < L.length := by rw [Hn.out]; exact hlt
      have r1 := own_keep Ho1.out KF.out (fun k hk e => by obtain ⟨cur, hc⟩ := own_ty Ho1.out hk; have := lt_of_block hc; have := HB.out; have : B ≤ k := e; omega)
      obtain ⟨g, c, e1⟩ := own_slice r1 (by omega)
      injection e1 with e1 _ e3
      subst e1
      clear e3
      rw [← Hn.out] at r1
      obtain ⟨c0, c1⟩ := ent_cell r1 i hkL
      have hsm := Hx.out i hkL
      have htl := encTo_length L Hx.out i (by omega)
      have hts := encTo_succ L i hkL
      unfold enc1 at hts
      have hn2 : ∀ U, Calls Try.prog 32 #[.int .i64 ((L[i]'hkL).1.length : Int), .int .i64 2] U fun e w' => e = .returned (.string ⟨(lb (L[i]'hkL).1.length 2).toArray⟩) ∧ Fr (fun _ => False) U w' := fun U => idxNumber_is (L[i]'hkL).1.length 2 (by omega) (by decide) U
      have hn3 : ∀ U, Calls Try.prog 32 #[.int .i64 ((L[i]'hkL).2.length : Int), .int .i64 4] U fun e w' => e = .returned (.string ⟨(lb (L[i]'hkL).2.length 4).toArray⟩) ∧ Fr (fun _ => False) U w' := fun U => idxNumber_is (L[i]'hkL).2.length 4 (by omega) (by decide) U
      have l2 := lb_length (L[i]'hkL).1.length 2
      have l3 := lb_length (L[i]'hkL).2.length 4
      generalize lb (L[i]'hkL).1.length 2 = N2 at *
      generalize lb (L[i]'hkL).2.length 4 = N3 at *
      obtain ⟨TB, hTB⟩ : ∃ T, encTo L (i + 1) = T := ⟨_, rfl⟩
      rw [hTB] at hts
      have HTB := Lib.hid hTB
      clear hTB
      generalize encTo L i = TA at *
      have hlX : (⟨(L[i]'hkL).1.toArray⟩ : ByteArray).data.toList = (L[i]'hkL).1 := rfl
      have zX : (L[i]'hkL).1.length = (⟨(L[i]'hkL).1.toArray⟩ : ByteArray).size := rfl
      have zY : (L[i]'hkL).2.length = (⟨(L[i]'hkL).2.toArray⟩ : ByteArray).size := rfl
      rw [zX] at hn2
      rw [zY] at hn3
      rw [zX, zY] at hsm
      generalize (⟨(L[i]'hkL).1.toArray⟩ : ByteArray) = X at *
      generalize (⟨(L[i]'hkL).2.toArray⟩ : ByteArray) = Y at *
      rw [← hlX] at hts
      clear hlX zX zY r1
      obtain ⟨S2, hS2⟩ : ∃ S : ByteArray, (⟨N2.toArray⟩ : ByteArray) = S := ⟨_, rfl⟩
      obtain ⟨S3, hS3⟩ : ∃ S : ByteArray, (⟨N3.toArray⟩ : ByteArray) = S := ⟨_, rfl⟩
      rw [hS2] at hn2
      rw [hS3] at hn3
      have z2 : S2.size = 2 := by rw [← hS2]; exact l2
      have z3 : S3.size = 4 := by rw [← hS3]; exact l3
      obtain ⟨SA, hSA⟩ : ∃ S : ByteArray, S2 ++ X = S := ⟨_, rfl⟩
      obtain ⟨SB, hSB⟩ : ∃ S : ByteArray, SA ++ S3 = S := ⟨_, rfl⟩
      have ad1 := fun U => run_string_add_sum (P := Try.prog) U S2 X (by omega)
      rw [hSA] at ad1
      have zA : SA.size = 2 + X.size := by rw [← hSA, ByteArray.size_append, z2]
      have ad2 := fun U => run_string_add_sum (P := Try.prog) U SA S3 (by omega)
      rw [hSB] at ad2
      have zB : SB.size = 6 + X.size := by rw [← hSB, ByteArray.size_append, zA, z3]; omega
      have hlB : TA ++ SB.data.toList = TB := by rw [hts, ← hSB, ← hSA, ← hS2, ← hS3]; simp
      have HN2 := Lib.hid hn2
      have HN3 := Lib.hid hn3
      have HlB := Lib.hid hlB
      have htb : TA.length + SB.size ≤ 100000000 := by omega
      have Htb := Lib.hid htb
      clear hn2 hn3 hS2 hS3 hSA hSB hlB hts l2 l3 htl htb
      have hXb : (X.size : Int) ≤ 2000 := by omega
      have hYb : (Y.size : Int) ≤ 200 := by omega
      go_upto_region 8 with fail
      have hst : ∃ W8 xb, wr.alloc (.cells #[.string X, .string Y] 54) = W8 ∧ wr.heap.size = xb ∧ Fr (fun k => B ≤ k) w1 W8 ∧ Lib.IsBuilder 79 5 B B (Lib.byteCells TA) W8 ∧ W8.heap[xb]? = some (.cells #[.string X, .string Y] 54 (0, 0)) :=
        ⟨_, _, rfl, rfl, KF.out.alloc _, bld_keep KB.out ((Fr.refl (fun _ => False) wr).alloc _), heap_alloc_new wr _⟩
      obtain ⟨W8, xb, hW8, hxb, hf8, hb8, hx8⟩ := hst
      rw [hW8, hxb]
      have q0 : ∀ u : InW (Fr (fun _ => False) W8.drew), u.to.cell? ⟨xb, 0, none⟩ = some (.string X) := fun u => u.ok.cell_ (w := W8.drew) ((cell_of (w := W8.drew) hx8 0).trans rfl) (fun x => x)
      have q1 : ∀ u : InW (Fr (fun _ => False) W8.drew), u.to.cell? ⟨xb, 1, none⟩ = some (.string Y) := fun u => u.ok.cell_ (w := W8.drew) ((cell_of (w := W8.drew) hx8 1).trans rfl) (fun x => x)
      have BB := Lib.hid hb8
      have FF := Lib.hid hf8
      clear hW8 hxb hf8 hb8 hx8 c0 c1 KF KB
      refine wp_region_in_tail (Fr (fun _ => False) W8.drew) 12 (by kernel_rfl) (by kernel_rfl) (Fr.refl _ _) ?_
      simp only [List.take_succ_cons, List.take_zero, List.drop_succ_cons, List.drop_zero]
      repeat (go_big_quiet_step ((go_at_call 32; first | (with_reducible exact Calls.fr_of (HN2.out _)) | (with_reducible exact Calls.fr_of (HN3.out _)))))
      refine wpQuiet_nil ?_
      intro w5 h5
      replace h5 := in_open h5
      have B5 : Hid (Lib.IsBuilder 79 5 B B (Lib.byteCells TA) w5) := Lib.hid (bld_keep (w := W8.drew) BB.out h5)
      have F5 : Hid (Fr (fun k => B ≤ k) w1 w5) := Lib.hid ((FF.out.drew).trans h5 (fun _ h => h.elim))
      clear BB FF q0 q1 h5
      go_wp2_with (go_at_call 31; refine (writeString_is B B (Lib.byteCells TA) SB _ B5.out (by rw [Lib.byteCells_length]; exact Htb.out) (by have := F5.out.size; have := HB.out; omega)).mono ?_; rintro e w6 ⟨rfl, h1, h2⟩; have B6 : Hid (Lib.IsBuilder 79 5 B B (Lib.byteCells TB) w6) := Lib.hid (.inr (by rw [bld_str, ← Lib.byteCells_append, HlB.out] at h1; exact h1)); have F6 := Lib.hid (F5.out.trans h2 (fun _ h => .inl h)); clear h1 h2)
      all_goals go_wp2
      all_goals go_roundw
      all_goals first
        | exact ⟨i + 1, by omega, by go_num, F6, by rw [HTB.out]; exact B6⟩
        | (simp [intOf]; done)
        | (simp [intOf]; omega)
        | trace_state
    · obtain rfl : i = n := by omega
      clear hlt hi
      rw [HTn.out] at KB
      have hne : encL L ≠ [] := by rw [← encTo_all]; exact encTo_ne L _
      go_wp2_with (go_at_call 33; refine (bldString_is B B (encL L) wr KB.out hne).mono ?_; rintro e w7 ⟨rfl, h⟩; have F7 := Lib.hid (KF.out.trans (fr_below h) (fun _ h => .inl h)); clear h)
      go_ret2
      exact ⟨rfl, F1.out.trans F7.out (fun k hk => .inr (by have := F1.out.size; have := HB.out; have : B ≤ k := hk; omega))⟩
end Go.Proofs.Ytlkiijojldnlbaa
