/- Layer 07 (chain): what the law speaks of; ChainFinds. -/
import Derived.Test.YtjdmkffhhlijnaaCh5
namespace Go.Proofs.Ytjdmkffhhlijnaa
set_option linter.unusedVariables false
open Go.RowKit Go.My Go.Ch

theorem foundV_get : ∀ (L : List (Nat × Nat)) (k : Nat) (h : k < L.length), (foundV L)[k * 2]? = some (.int .i64 ((L[k]).1 : Int)) ∧ (foundV L)[k * 2 + 1]? = some (.int .i64 ((L[k]).2 : Int))
  | [], k, h => absurd h (Nat.not_lt_zero _)
  | x :: L, 0, _ => ⟨rfl, rfl⟩
  | x :: L, k + 1, h => by
    have ih := foundV_get L k (by simpa using h)
    have e : foundV (x :: L) = [Value.int .i64 (x.1 : Int), .int .i64 (x.2 : Int)] ++ foundV L := by simp [foundV]
    rw [e]
    refine ⟨?_, ?_⟩
    · rw [List.getElem?_append_right (by simp; omega), show (k + 1) * 2 - [Value.int .i64 (x.1 : Int), .int .i64 (x.2 : Int)].length = k * 2 by simp; omega, ih.1]
      rfl
    · rw [List.getElem?_append_right (by simp; omega), show (k + 1) * 2 + 1 - [Value.int .i64 (x.1 : Int), .int .i64 (x.2 : Int)].length = k * 2 + 1 by simp; omega, ih.2]
      rfl
theorem found_cell {w : World} {B T g n cap : Nat} {L : List (Nat × Nat)} (h : w.ownsRow B T 2 (.slice (some ⟨g, 0, none⟩) n cap) L.length (foundV L)) (k : Nat) (hk : k < L.length) :
    w.cell? ⟨g, k * 2, none⟩ = some (.int .i64 ((L[k]).1 : Int)) ∧ w.cell? ⟨g, k * 2 + 1, none⟩ = some (.int .i64 ((L[k]).2 : Int)) := by
  obtain ⟨h1, h2⟩ := foundV_get L k hk
  have c1 := h.cells (g := g) rfl (k * 2) _ h1
  have c2 := h.cells (g := g) rfl (k * 2 + 1) _ h2
  have e : ∀ j, (⟨g, 0, none⟩ : Addr).add j = ⟨g, j, none⟩ := fun j => by unfold Addr.add; split <;> simp_all
  rw [e] at c1 c2
  exact ⟨c1, c2⟩
theorem ex_none : ∀ i, i < 3 → foundL [97, 98, 99, 97, 98, 99, 100] i 99 9 = [] := by decide
theorem ex_one : foundL [97, 98, 99, 97, 98, 99, 100] 3 99 9 = [(3, 3)] := by decide

set_option maxHeartbeats 4000000 in
set_option maxRecDepth 100000 in
theorem speaks07 (w : World) : Calls Try.prog 8 #[] w fun e w' => e = .returned (.bool true) ∧ Fr (fun _ => False) w w' := by
  obtain ⟨B, hB⟩ : ∃ B, w.heap.size = B := ⟨_, rfl⟩
  have hnw := chnew_is ⟨#[97, 98, 99, 97, 98, 99, 100]⟩ 99 9 w
  rw [hB] at hnw
  have HN := Lib.hid hnw
  have HB : Hid (w.heap.size = B) := hB
  clear hnw hB
  go_enter Try.func8, Try.ntmps8
  go_upto_block 0 with (go_at_call 9; refine HN.out.mono ?_; rintro e w1 ⟨p, b, rfl, h1, h2⟩; have FA := Lib.hid h1; have FF : Hid (Fr (fun k => B ≤ k) w w1) := Lib.hid (h2.mono (fun _ h => h.elim)); clear h1 h2)
  have Hsz : Hid ((⟨#[97, 98, 99, 97, 98, 99, 100]⟩ : ByteArray).size = 7) := rfl
  have Hl : Hid ((⟨#[97, 98, 99, 97, 98, 99, 100]⟩ : ByteArray).data.toList = [97, 98, 99, 97, 98, 99, 100]) := rfl
  generalize (⟨#[97, 98, 99, 97, 98, 99, 100]⟩ : ByteArray) = s at FA Hsz Hl
  clear HN
  go_cut [2] (fun _ wx => ∃ v5, Hid (FinB wx B p s 99 9 3 3 b v5) ∧ Hid (Fr (fun k => B ≤ k) w wx))
  case first =>
    go_wp2
    go_loopw [2] (fun v2 wr => ∃ (i : Nat) (v5 : Value), i ≤ 3 ∧ v2 = .int .i64 (i : Int) ∧ Hid (FinB wr B p s 99 9 i i b v5) ∧ Hid (Fr (fun k => B ≤ k) w wr)) (fun v2 _ => 3 - (intOf v2).toNat)
    case atStart => exact ⟨0, _, by omega, rfl, FA, FF⟩
    case round =>
      obtain ⟨i, v5, hi, rfl, KA, KF⟩ := hrel
      clear FA FF
      by_cases hlt : i < 3
      · have hlI : (i : Int) < 3 := by omega
        have hnx := next_is KA.out (by rw [Hsz.out]; omega) (by rw [Hsz.out]; decide)
        have hex : foundL s.data.toList i 99 9 = [] := by rw [Hl.out]; exact ex_none i hlt
        rw [hex] at hnx
        have HNx := Lib.hid hnx
        clear hnx hex
        go_upto_region 4 with (go_at_call 10; refine HNx.out.mono ?_; rintro e w2 ⟨r, v6, rfl, h1, h2, h3⟩; obtain ⟨ad, cap, hr⟩ := own_any h1; subst hr; have MA := Lib.hid h2; have MF := Lib.hid (KF.out.trans h3 (fun _ h => .inl h)); clear h1 h2 h3)
        go_wp2
        go_roundw
        case rel => exact ⟨i + 1, _, by omega, by go_num, MA, MF⟩
        case measure => simp [intOf]; omega
      · obtain rfl : i = 3 := by omega
        clear hlt hi
        go_wp2
        go_meet
        exact ⟨_, KA, KF⟩
  case rest =>
    obtain ⟨v5, KA, KF⟩ := hcut
    clear FA FF
    have hnx := next_is KA.out (by rw [Hsz.out]; decide) (by rw [Hsz.out]; decide)
    have hex : foundL s.data.toList 3 99 9 = [(3, 3)] := by rw [Hl.out]; exact ex_one
    rw [hex] at hnx
    have HNx := Lib.hid hnx
    clear hnx hex
    go_upto_region 8 with (go_at_call 10; refine HNx.out.mono ?_; rintro e w2 ⟨r, v6, rfl, h1, h2, h3⟩; obtain ⟨g, cap, hr⟩ := own_slice h1 (by decide); subst hr; have MA := Lib.hid h2; have MF := Lib.hid (KF.out.trans h3 (fun _ h => .inl h)); have hc := found_cell h1 0 (by decide); clear h1 h2 h3)
    have d0 : w2.cell? ⟨g, 0, none⟩ = some (.int .i64 3) := hc.1
    have d1 : w2.cell? ⟨g, 1, none⟩ = some (.int .i64 3) := hc.2
    have HP := Lib.hid (place_is MA.out)
    clear hc HNx KA KF
    go_wp2_with (go_at_call 12; refine HP.out.mono ?_; rintro e w3 ⟨rfl, rfl⟩)
    go_ret
    exact ⟨rfl, MF.out.mono (fun k hk => .inr (by have := HB.out; omega))⟩

set_option maxHeartbeats 4000000 in
set_option maxRecDepth 100000 in
theorem chainFinds_walk (s0 : ByteArray) (win cut : Int) (w : World) :
    Calls Try.prog 3 #[.string s0, .int .i64 win, .int .i64 cut] w fun e w' => e = .returned (.bool true) ∧ Fr (fun _ => False) w w' := by
  go_enter Try.func3, Try.ntmps3
  go_upto_region 3 with (go_at_call 8; refine (speaks07 w).mono ?_; rintro e w1 ⟨rfl, h⟩; have F1 := Lib.hid h; clear h)
  go_cut [0] (fun v0 w' => ∃ t : ByteArray, t.size ≤ 200 ∧ v0 = .string t ∧ w' = w1)
  case first =>
    by_cases h3 : s0.size ≤ 200
    all_goals
      go_wp2
      go_meet
      refine ⟨_, ?_, rfl, rfl⟩
      first | omega | (rw [ByteArray.size_extract]; split <;> omega) | (rw [ByteArray.size_extract]; omega)
  case rest =>
    obtain ⟨s, hs, rfl, hwc⟩ := hcut
    rw [hwc]
    clear hwc
    obtain ⟨B, hB⟩ : ∃ B, w1.heap.size = B := ⟨_, rfl⟩
    have hnw := chnew_is s win cut w1
    rw [hB] at hnw
    have HN := Lib.hid hnw
    have HB : Hid (w.heap.size ≤ B) := by show _ ≤ _; have := F1.out.size; omega
    clear hnw hB
    go_upto_block 0 with (go_at_call 9; refine HN.out.mono ?_; rintro e w2 ⟨p, b, rfl, h1, h2⟩; have FA := Lib.hid h1; have FF : Hid (Fr (fun k => B ≤ k) w w2) := Lib.hid ((F1.out.trans h2 (fun _ h => .inl h)).mono (fun _ h => h.elim)); clear h1 h2)
    clear HN F1
    go_cut [8, 9, 10, 11] (fun _ _ _ _ wx => ∃ v5, Hid (FinB wx B p s win cut s.size s.size b v5) ∧ Hid (Fr (fun k => B ≤ k) w wx))
    case first =>
      go_wp2
      go_loopw [8, 9, 10, 11] (fun v8 _ _ _ wr => ∃ (i : Nat) (v5 : Value), i ≤ s.size ∧ v8 = .int .i64 (i : Int) ∧ Hid (FinB wr B p s win cut i i b v5) ∧ Hid (Fr (fun k => B ≤ k) w wr)) (fun v8 _ _ _ _ => s.size - (intOf v8).toNat)
      case atStart => exact ⟨0, _, by omega, rfl, FA, FF⟩
      case round =>
        obtain ⟨i, v5, hi, rfl, KA, KF⟩ := hrel
        clear FA FF
        by_cases hlt : i < s.size
        · have hlI : (i : Int) < (s.size : Int) := by omega
          have hnx := next_is KA.out hlt (by omega)
          have hrf := fun U => at_is s (by omega) i hi win cut U
          obtain ⟨L, hL⟩ : ∃ L, foundL s.data.toList i win cut = L := ⟨_, rfl⟩
          have hLn : L.length ≤ 200 := by
            rw [← hL]
            have := (hst_len s.data.toList i cut (lim i win)).1
            have := (lim_le i win).1
            unfold foundL
            omega
          rw [hL] at hnx hrf
          have HNx := Lib.hid hnx
          have HRf := Lib.hid hrf
          clear hnx hrf hL
          obtain ⟨N, hN⟩ : ∃ N, L.length = N := ⟨_, rfl⟩
          have HNL := Lib.hid hN
          rw [hN] at hLn
          go_upto_region 9 with (first
            | (go_at_call 10; refine HNx.out.mono ?_; rintro e w3 ⟨r, v6, rfl, h1, h2, h3⟩; have R3 := Lib.hid h1; have A3 := Lib.hid h2; have F3 := Lib.hid (KF.out.trans h3 (fun _ h => .inl h)); clear h1 h2 h3)
            | (go_at_call 11; refine (HRf.out w3).mono ?_; rintro e w4 ⟨q, rfl, h1, h2⟩; have R4 := Lib.hid (own_keep R3.out h2 (fun _ _ x => x)); have Q4 := Lib.hid h1; have A4 := Lib.hid (A3.out.fresh h2); have F4 := Lib.hid (F3.out.trans h2 (fun _ h => h.elim)); clear h1 h2))
          clear HNx HRf KA KF R3 A3 F3 hN
          have HP := Lib.hid (place_is A4.out)
          obtain ⟨ad1, cap1, hr⟩ := own_any R4.out
          subst hr
          obtain ⟨ad2, cap2, hq⟩ := own_any Q4.out
          subst hq
          rw [HNL.out]
          go_upto_block 2 with (go_at_call 12; refine HP.out.mono ?_; rintro e w5 ⟨rfl, rfl⟩)
          go_wp2
          go_loopw [11] (fun v11 wr => ∃ k : Nat, k ≤ N ∧ v11 = .int .i64 (k : Int) ∧ Hid (Fr (fun _ => False) w5 wr)) (fun v11 _ => N - (intOf v11).toNat)
          case atStart => exact ⟨0, by omega, rfl, Fr.refl _ _⟩
          case round =>
            obtain ⟨k, hk, rfl, LF⟩ := hrel
            by_cases hlk : k < N
            · have hkI : (k : Int) < (N : Int) := by omega
              have hk0 : (0 : Int) ≤ (k : Int) := by omega
              have r5 := own_keep R4.out LF.out (fun _ _ x => x)
              have q5 := own_keep Q4.out LF.out (fun _ _ x => x)
              obtain ⟨g1, cap1', hr1⟩ := own_slice r5 (by rw [HNL.out]; omega)
              obtain ⟨g2, cap2', hr2⟩ := own_slice q5 (by rw [HNL.out]; omega)
              injection hr1 with hra hrb hrc
              injection hr2 with hqa hqb hqc
              subst hra hqa
              obtain ⟨d0, d1⟩ := found_cell r5 k (by rw [HNL.out]; exact hlk)
              obtain ⟨e0, e1⟩ := found_cell q5 k (by rw [HNL.out]; exact hlk)
              generalize (L[k]'(by rw [HNL.out]; exact hlk)).1 = x at *
              generalize (L[k]'(by rw [HNL.out]; exact hlk)).2 = y at *
              clear r5 q5
              go_upto_region 14 with fail
              go_region
              all_goals go_wp2
              all_goals go_roundw
              all_goals first
                | exact ⟨k + 1, by omega, by go_num, LF.out.drew⟩
                | (simp [intOf]; omega)
            · obtain rfl : k = N := by omega
              clear hlk hk
              go_wp2
              go_roundw
              case rel => exact ⟨i + 1, _, by omega, by go_num, A4.out.fresh LF.out, F4.out.trans LF.out (fun _ h => h.elim)⟩
              case measure => simp [intOf]; omega
        · obtain rfl : i = s.size := by omega
          clear hlt hi
          go_wp2
          go_meet
          exact ⟨_, KA, KF⟩
    case rest =>
      obtain ⟨v5, KA, KF⟩ := hcut
      clear FA FF
      have hne := next_end KA.out rfl
      have HNe := Lib.hid hne
      clear hne
      go_wp2_with (first
        | (go_at_call 10; first
          | ((with_reducible show Calls _ _ #[Value.pointer none] _ _); refine (next_nil _).mono ?_; rintro e w7 ⟨rfl, h⟩; have F7 := Lib.hid (F6.out.trans h (fun _ h => h.elim)); clear h)
          | (refine HNe.out.mono ?_; rintro e w6 ⟨rfl, h⟩; have A6 := Lib.hid (KA.out.fresh h); have F6 := Lib.hid (KF.out.trans h (fun _ h => h.elim)); clear h))
        | (go_at_call 12; first
          | ((with_reducible show Calls _ _ #[Value.pointer none] _ _); refine (place_nil _).mono ?_; rintro e w9 ⟨rfl, rfl⟩)
          | (refine (place_is A6.out).mono ?_; rintro e w9 ⟨rfl, rfl⟩)))
      go_ret
      exact ⟨rfl, F7.out.mono (fun k hk => .inr (by have := HB.out; omega))⟩
end Go.Proofs.Ytjdmkffhhlijnaa
