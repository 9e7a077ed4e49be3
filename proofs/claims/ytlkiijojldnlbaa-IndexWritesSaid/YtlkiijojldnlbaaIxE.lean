/- Layer 27 (index): the document's Index; a byte more or less is no index. -/
import Derived.Test.YtlkiijojldnlbaaIxD
namespace Go.Ix
set_option linter.unusedVariables false
theorem st1_more {r r' : List UInt8} {t t' : Nat} {x : List UInt8 × Nat} (h : st1 r t = some (r', t', x)) (s : List UInt8) : st1 (r ++ s) t = some (r' ++ s, t', x) := by
  unfold st1 at h ⊢
  split at h
  · cases h
  · rename_i h2
    split at h
    · cases h
    · rename_i h6
      split at h
      · cases h
      · rename_i ht
        have e2 : (r ++ s).take 2 = r.take 2 := List.take_append_of_le_length (by omega)
        have d2 : (r ++ s).drop 2 = r.drop 2 ++ s := List.drop_append_of_le_length (by omega)
        have l2 : (r.drop 2).length = r.length - 2 := List.length_drop
        have dk : (r.drop 2 ++ s).drop (le (r.take 2)) = (r.drop 2).drop (le (r.take 2)) ++ s := List.drop_append_of_le_length (by omega)
        have lk : ((r.drop 2).drop (le (r.take 2))).length = r.length - 2 - le (r.take 2) := by rw [List.length_drop, List.length_drop]
        have tk : (r.drop 2 ++ s).take (le (r.take 2)) = (r.drop 2).take (le (r.take 2)) := List.take_append_of_le_length (by omega)
        have t4 : ((r.drop 2).drop (le (r.take 2)) ++ s).take 4 = ((r.drop 2).drop (le (r.take 2))).take 4 := List.take_append_of_le_length (by omega)
        have d4 : ((r.drop 2).drop (le (r.take 2)) ++ s).drop 4 = ((r.drop 2).drop (le (r.take 2))).drop 4 ++ s := List.drop_append_of_le_length (by omega)
        simp only [Option.some.injEq, Prod.mk.injEq] at h
        obtain ⟨rfl, rfl, rfl⟩ := h
        rw [e2, d2, dk, tk, t4, d4, List.length_append, if_neg (by omega), if_neg (by omega), if_neg (by omega)]
theorem stN_more {b : List UInt8} (h4 : 4 ≤ b.length) (s : List UInt8) : ∀ (i : Nat) {r : List UInt8} {t : Nat} {l : List (List UInt8 × Nat)}, stN b i = some (r, t, l) → stN (b ++ s) i = some (r ++ s, t, l)
  | 0, r, t, l, h => by
    simp only [stN, Option.some.injEq, Prod.mk.injEq] at h ⊢
    obtain ⟨rfl, rfl, rfl⟩ := h
    exact ⟨List.drop_append_of_le_length h4, rfl, rfl⟩
  | i + 1, r, t, l, h => by
    rcases hs : stN b i with _ | ⟨r0, t0, l0⟩
    · have := stN_stop hs 1
      rw [this] at h
      cases h
    · rw [stN_next hs] at h
      rw [stN_next (stN_more h4 s i hs)]
      rcases h1 : st1 r0 t0 with _ | ⟨r1, t1, x⟩
      · rw [h1] at h; cases h
      · rw [h1] at h
        rw [st1_more h1 s]
        simp only [Option.some.injEq, Prod.mk.injEq] at h ⊢
        obtain ⟨rfl, rfl, rfl⟩ := h
        exact ⟨rfl, rfl, rfl⟩
theorem decR_more {b : List UInt8} {l : List (List UInt8 × Nat)} (h : decR b = some l) (s : List UInt8) (hs : s ≠ []) : decR (b ++ s) = none := by
  unfold decR at h
  split at h
  · cases h
  · rename_i h4
    rcases hst : stN b (le (b.take 4)) with _ | ⟨r, t, l0⟩
    · rw [hst] at h; cases h
    · rw [hst] at h
      dsimp only at h
      have e4 : (b ++ s).take 4 = b.take 4 := List.take_append_of_le_length (by omega)
      unfold decR
      rw [e4, stN_more (by omega) s _ hst, List.length_append, if_neg (by omega)]
      dsimp only
      rw [if_neg]
      rintro ⟨h1, _⟩
      exact hs (List.append_eq_nil_iff.1 h1).2
theorem decR_less {b : List UInt8} {l : List (List UInt8 × Nat)} (h : decR b = some l) (k : Nat) (hk : k < b.length) : decR (b.take k) = none := by
  rcases hd : decR (b.take k) with _ | l'
  · rfl
  · have hne : b.drop k ≠ [] := by
      intro h0
      have := congrArg List.length h0
      rw [List.length_drop, List.length_nil] at this
      omega
    have := decR_more hd (b.drop k) hne
    rw [List.take_append_drop, h] at this
    cases this
end Go.Ix
namespace Go.Proofs.Ytlkiijojldnlbaa
set_option linter.unusedVariables false
open Go.RowKit Go.My Go.Ix

set_option maxHeartbeats 4000000 in
set_option maxRecDepth 100000 in
theorem refIndex_is (L : Ents) (n : Nat) (hn : L.length = n) (hb : n ≤ 100) (hx : Small L) (B0 : Nat) (v : Value) (w : World) (ho : w.ownsRow B0 47 2 v n (itemsV (itm L))) :
    Calls Try.prog 21 #[v] w fun e w' => e = .returned (.string ⟨(encL L).toArray⟩) ∧ Fr (fun _ => False) w w' := by
  obtain ⟨a, p, hv⟩ := own_any ho
  subst hv
  have hbI : (n : Int) ≤ 100 := by omega
  have hn1 : ∀ U, Calls Try.prog 34 #[.int .i64 (n : Int), .int .i64 4] U fun e w' => e = .returned (.string ⟨(encTo L 0).toArray⟩) ∧ Fr (fun _ => False) U w' := fun U => by
    rw [encTo_zero, hn]; exact refBytes_is n 4 (by omega) (by decide) U
  obtain ⟨S0, hS0⟩ : ∃ S : ByteArray, (⟨(encTo L 0).toArray⟩ : ByteArray) = S := ⟨_, rfl⟩
  rw [hS0] at hn1
  have hTn : encTo L n = encL L := by rw [← hn]; exact encTo_all L
  have Ho := Lib.hid ho
  have Hn := Lib.hid hn
  have Hx := Lib.hid hx
  have HN1 := Lib.hid hn1
  have HS0 := Lib.hid hS0
  have HTn := Lib.hid hTn
  clear ho hn hx hn1 hS0 hTn
  go_enter Try.func21, Try.ntmps21
  go_upto_region 3 with (go_at_call 34; refine (HN1.out _).mono ?_; rintro e w1 ⟨rfl, h⟩; have F1 := Lib.hid h; clear h)
  clear HN1
  go_loopw [3, 4] (fun v3 v4 wr => ∃ (i : Nat) (S : ByteArray), i ≤ n ∧ v4 = .int .i64 (i : Int) ∧ v3 = .string S ∧ S.size ≤ 1000000 ∧ Hid (S = ⟨(encTo L i).toArray⟩) ∧ Hid (Fr NoF w wr)) (fun _ v4 _ => n - (intOf v4).toNat)
  case atStart => exact ⟨0, S0, Nat.zero_le _, rfl, rfl, by rw [← HS0.out, encTo_zero]; show (lb L.length 4).toArray.size ≤ _; simp [lb_length], Lib.hid HS0.out.symm, F1⟩
  case round =>
    clear F1 HS0
    obtain ⟨i, S, hi, rfl, rfl, hS, KS, KF⟩ := hrel
    by_cases hlt : i < n
    · have hI : (i : Int) < (n : Int) := by omega
      have hi0 : (0 : Int) ≤ (i : Int) := by omega
      have hkL : i < L.length := by rw [Hn.out]; exact hlt
      have hkI : i < (itm L).length := by simpa [itm] using hkL
      have r1 := own_keep Ho.out KF.out (fun _ _ x => x)
      obtain ⟨g, c, e1⟩ := own_slice r1 (by omega)
      injection e1 with e1 _ e3
      subst e1
      clear e3
      rw [show n = (itm L).length by rw [← Hn.out]; simp [itm]] at r1
      obtain ⟨c0, c1⟩ := item_cell (w := wr) (T := 47) r1 i hkI
      have hgi : (itm L)[i]'hkI = ((L[i]'hkL).1, (L[i]'hkL).2.length) := by simp [itm]
      rw [hgi] at c0 c1
      have hsm := Hx.out i hkL
      have hts := encTo_succ L i hkL
      unfold enc1 at hts
      have htl := encTo_length L Hx.out (i + 1) (by omega)
      have hn2 : ∀ U, Calls Try.prog 34 #[.int .i64 ((L[i]'hkL).1.length : Int), .int .i64 2] U fun e w' => e = .returned (.string ⟨(lb (L[i]'hkL).1.length 2).toArray⟩) ∧ Fr (fun _ => False) U w' := fun U => refBytes_is (L[i]'hkL).1.length 2 (by omega) (by decide) U
      have hn3 : ∀ U, Calls Try.prog 34 #[.int .i64 ((L[i]'hkL).2.length : Int), .int .i64 4] U fun e w' => e = .returned (.string ⟨(lb (L[i]'hkL).2.length 4).toArray⟩) ∧ Fr (fun _ => False) U w' := fun U => refBytes_is (L[i]'hkL).2.length 4 (by omega) (by decide) U
      have l2 := lb_length (L[i]'hkL).1.length 2
      have l3 := lb_length (L[i]'hkL).2.length 4
      generalize lb (L[i]'hkL).1.length 2 = N2 at *
      generalize lb (L[i]'hkL).2.length 4 = N3 at *
      dsimp only at c0 c1
      have zX : (L[i]'hkL).1.length = (⟨(L[i]'hkL).1.toArray⟩ : ByteArray).size := rfl
      have hlX : (⟨(L[i]'hkL).1.toArray⟩ : ByteArray).data.toList = (L[i]'hkL).1 := rfl
      rw [zX] at hn2 hsm
      rw [← hlX] at hts
      obtain ⟨y, hy⟩ : ∃ y, (L[i]'hkL).2.length = y := ⟨_, rfl⟩
      rw [hy] at c1 hn3 hsm
      generalize (⟨(L[i]'hkL).1.toArray⟩ : ByteArray) = X at *
      obtain ⟨S2, hS2⟩ : ∃ S : ByteArray, (⟨N2.toArray⟩ : ByteArray) = S := ⟨_, rfl⟩
      obtain ⟨S3, hS3⟩ : ∃ S : ByteArray, (⟨N3.toArray⟩ : ByteArray) = S := ⟨_, rfl⟩
      rw [hS2] at hn2
      rw [hS3] at hn3
      have z2 : S2.size = 2 := by rw [← hS2]; exact l2
      have z3 : S3.size = 4 := by rw [← hS3]; exact l3
      obtain ⟨SA, hSA⟩ : ∃ S : ByteArray, S2 ++ X = S := ⟨_, rfl⟩
      obtain ⟨SB, hSB⟩ : ∃ S : ByteArray, SA ++ S3 = S := ⟨_, rfl⟩
      obtain ⟨SC, hSC⟩ : ∃ SC : ByteArray, S ++ SB = SC := ⟨_, rfl⟩
      have ad1 := fun U => run_string_add_sum (P := Try.prog) U S2 X (by omega)
      rw [hSA] at ad1
      have zA : SA.size = 2 + X.size := by rw [← hSA, ByteArray.size_append, z2]
      have ad2 := fun U => run_string_add_sum (P := Try.prog) U SA S3 (by omega)
      rw [hSB] at ad2
      have zB : SB.size = 6 + X.size := by rw [← hSB, ByteArray.size_append, zA, z3]; omega
      have ad3 := fun U => run_string_add_sum (P := Try.prog) U S SB (by omega)
      rw [hSC] at ad3
      have hSC2 : SC = ⟨(encTo L (i + 1)).toArray⟩ := by
        rw [← hSC, ← hSB, ← hSA, ← hS2, ← hS3, KS.out, hts]
        apply ByteArray.ext
        apply Array.ext'
        simp
      have hSC3 : SC.size ≤ 1000000 := by
        rw [hSC2]
        show (encTo L (i + 1)).toArray.size ≤ _
        simp
        omega
      have HSC2 := Lib.hid hSC2
      have HN2 := Lib.hid hn2
      have HN3 := Lib.hid hn3
      have q0 : ∀ u : InW (Fr NoF wr.drew), u.to.cell? ⟨g, i * 2, none⟩ = some (.string X) := fun u => u.ok.cell_ (w := wr.drew) c0 (fun x => x)
      have q1 : ∀ u : InW (Fr NoF wr.drew), u.to.cell? ⟨g, i * 2 + 1, none⟩ = some (.int .i64 (y : Int)) := fun u => u.ok.cell_ (w := wr.drew) c1 (fun x => x)
      clear r1 c0 c1 hgi hts hn2 hn3 l2 l3 zX hlX hy hS2 hS3 hSA hSB hSC hSC2 hkI htl
      go_upto_region 5 with fail
      refine wp_region_mix 23 [(0, true), (1, true), (2, true), (3, true), (4, true), (5, true), (6, true), (7, true), (8, true), (9, true), (10, true), (11, true), (12, true), (13, true), (14, true), (15, true), (16, true), (17, true), (18, true), (19, true), (20, true), (21, true), (22, true)] (by kernel_rfl) (by kernel_rfl) ?_
      simp only [planOps, List.getElem?_cons_zero, List.getElem?_cons_succ, List.drop_succ_cons, List.drop_zero]
      repeat (first | (refine mix_skip (by rfl) ?_; (simp only [Act.put, List.setIfInBounds_toArray, List.set_cons_zero, List.set_cons_succ])) | (refine mix_step (by rfl) ?_; apply Exists.intro; refine ⟨fun u => ?_, ?_⟩; (focus (unfold quietF; go_simp; first | done | exact ⟨rfl, rfl⟩ | (refine ⟨rfl, ?_⟩; (go_at_call 34; first | (with_reducible exact HN2.out _) | (with_reducible exact HN3.out _))))); (simp only [Act.put, List.setIfInBounds_toArray, List.set_cons_zero, List.set_cons_succ])))
      refine mix_nil (fun w2 hf2 => ?_)
      have HF2 := Lib.hid ((KF.out.drew).trans hf2 (fun _ h => .inl h))
      clear hf2 q0 q1
      go_wp2
      go_roundw
      case rel => exact ⟨i + 1, SC, hlt, by go_num, rfl, hSC3, HSC2, HF2⟩
      case measure => simp [intOf]; omega
    · obtain rfl : i = n := by omega
      clear hlt hi
      go_wp2
      go_ret
      exact ⟨by rw [KS.out, HTn.out]; rfl, KF.out⟩
end Go.Proofs.Ytlkiijojldnlbaa
