/- Layer 08 (bst): what the law speaks of; BstFinds. -/
import Derived.Test.YtjdmkffhhlijnaaBs3
namespace Go.Proofs.Ytjdmkffhhlijnaa
set_option linter.unusedVariables false
open Go.RowKit Go.My Go.Ch Go.Bs

/-- A finder behind i places. -/
def BstAt (w : World) (B p : Nat) (s : ByteArray) (win : Int) (i : Nat) : Prop := ∃ gl gm top L M, FinT w B p gl gm s win i top L M ∧ Rep L M (tree s.data.toList win i) top
theorem BstAt.fresh {w w' : World} {B p : Nat} {s : ByteArray} {win : Int} {i : Nat} (h : BstAt w B p s win i) (hf : Fr (fun _ => False) w w') : BstAt w' B p s win i := by
  obtain ⟨gl, gm, top, L, M, h1, h2⟩ := h
  exact ⟨gl, gm, top, L, M, h1.fresh hf, h2⟩
theorem BstAt.lt {w : World} {B p : Nat} {s : ByteArray} {win : Int} {i : Nat} (h : BstAt w B p s win i) : B ≤ p ∧ p < w.heap.size := by
  obtain ⟨gl, gm, top, L, M, h1, h2⟩ := h
  exact ⟨h1.hp, h1.lt.1⟩
def bfound (s : ByteArray) (win : Int) (i : Nat) : List (Nat × Nat) := (allH s.data.toList i (lim i win)).2
theorem b_new (s : ByteArray) (hs : s.size ≤ 1000) (win : Int) (w : World) :
    Calls Try.prog 14 #[.string s, .int .i64 win] w fun e w' => ∃ p, e = .returned (.pointer (some ⟨p, 0, none⟩)) ∧ BstAt w' w.heap.size p s win 0 ∧ Fr (fun _ => False) w w' := by
  refine (bsnew_is s hs win w).mono ?_
  rintro e w' ⟨p, gl, gm, rfl, h1, h2⟩
  exact ⟨p, rfl, ⟨gl, gm, _, _, _, h1, rfl⟩, h2⟩
theorem b_next {w : World} {B p : Nat} {s : ByteArray} {win : Int} {i : Nat} (h : BstAt w B p s win i) (hs : s.size ≤ 1000) (hi : i < s.size) :
    Calls Try.prog 15 #[.pointer (some ⟨p, 0, none⟩)] w fun e w' => ∃ r, e = .returned r ∧ w'.ownsRow w.heap.size 32 2 r (bfound s win i).length (foundV (bfound s win i)) ∧ BstAt w' B p s win (i + 1) ∧ Fr (fun k => B ≤ k) w w' := by
  obtain ⟨gl, gm, top, L, M, h1, h2⟩ := h
  refine (bsnext_is h1 hs hi h2).mono ?_
  rintro e w' ⟨r, L', M', rfl, h3, h4, h5, h6⟩
  exact ⟨r, rfl, h3, ⟨gl, gm, _, L', M', h4, h5⟩, h6⟩
theorem b_end {w : World} {B p : Nat} {s : ByteArray} {win : Int} {i : Nat} (h : BstAt w B p s win i) (hi : i = s.size) :
    Calls Try.prog 15 #[.pointer (some ⟨p, 0, none⟩)] w fun e w' => e = .returned (.slice none 0 0) ∧ Fr (fun _ => False) w w' := by
  obtain ⟨gl, gm, top, L, M, h1, h2⟩ := h
  exact bsnext_end h1 hi
theorem b_place {w : World} {B p : Nat} {s : ByteArray} {win : Int} {i : Nat} (h : BstAt w B p s win i) :
    Calls Try.prog 17 #[.pointer (some ⟨p, 0, none⟩)] w fun e w' => e = .returned (.int .i64 (i : Int)) ∧ w' = w := by
  obtain ⟨gl, gm, top, L, M, h1, h2⟩ := h
  exact bsplace_is h1
theorem bx_none : ∀ i, i < 2 → (allH [97, 98, 97, 98, 98] i (lim i 99)).2 = [] := by decide
theorem bx_one : (allH [97, 98, 97, 98, 98] 2 (lim 2 99)).2 = [(2, 2)] := by decide
theorem bfound_le (s : ByteArray) (win : Int) (i : Nat) : (bfound s win i).length ≤ 272 := by
  have := allH_small s.data.toList i (lim i win)
  unfold bfound
  omega

set_option maxHeartbeats 4000000 in
set_option maxRecDepth 100000 in
theorem speaks08 (w : World) : Calls Try.prog 13 #[] w fun e w' => e = .returned (.bool true) ∧ Fr (fun _ => False) w w' := by
  obtain ⟨B, hB⟩ : ∃ B, w.heap.size = B := ⟨_, rfl⟩
  have hnw := b_new ⟨#[97, 98, 97, 98, 98]⟩ (by decide) 99 w
  rw [hB] at hnw
  have HN := Lib.hid hnw
  have HB : Hid (w.heap.size = B) := hB
  clear hnw hB
  go_enter Try.func13, Try.ntmps13
  go_upto_region 2 with (go_at_call 14; refine HN.out.mono ?_; rintro e w1 ⟨p, rfl, h1, h2⟩; have FA := Lib.hid h1; have FF : Hid (Fr (fun k => B ≤ k) w w1) := Lib.hid (h2.mono (fun _ h => h.elim)); clear h1 h2)
  have Hsz : Hid ((⟨#[97, 98, 97, 98, 98]⟩ : ByteArray).size = 5) := rfl
  have Hl : Hid ((⟨#[97, 98, 97, 98, 98]⟩ : ByteArray).data.toList = [97, 98, 97, 98, 98]) := rfl
  generalize (⟨#[97, 98, 97, 98, 98]⟩ : ByteArray) = s at FA Hsz Hl
  clear HN
  have e0 : bfound s 99 0 = [] := by unfold bfound; rw [Hl.out]; exact bx_none 0 (by decide)
  have e1 : bfound s 99 1 = [] := by unfold bfound; rw [Hl.out]; exact bx_none 1 (by decide)
  have e2 : bfound s 99 2 = [(2, 2)] := by unfold bfound; rw [Hl.out]; exact bx_one
  have hn0 := b_next FA.out (by rw [Hsz.out]; decide) (by rw [Hsz.out]; decide)
  have hn1 := fun (U : World) (h : BstAt U B p s 99 1) => b_next h (by rw [Hsz.out]; decide) (by rw [Hsz.out]; decide)
  have hn2 := fun (U : World) (h : BstAt U B p s 99 2) => b_next h (by rw [Hsz.out]; decide) (by rw [Hsz.out]; decide)
  rw [e0] at hn0
  rw [e1] at hn1
  rw [e2] at hn2
  have HN0 := Lib.hid hn0
  have HN1 := Lib.hid hn1
  have HN2 := Lib.hid hn2
  clear e0 e1 e2 hn0 hn1 hn2
  go_upto_region 3 with (go_at_call 15; first
    | (refine HN0.out.mono ?_; rintro e w2 ⟨r, rfl, h1, h2, h3⟩; obtain ⟨ad, cap, hr⟩ := own_any h1; subst hr; have A2 := Lib.hid h2; have F2 := Lib.hid (FF.out.trans h3 (fun _ h => .inl h)); clear h1 h2 h3)
    | (refine (HN1.out w2 A2.out).mono ?_; rintro e w3 ⟨r, rfl, h1, h2, h3⟩; obtain ⟨ad3, cap3, hr⟩ := own_any h1; subst hr; have A3 := Lib.hid h2; have F3 := Lib.hid (F2.out.trans h3 (fun _ h => .inl h)); clear h1 h2 h3))
  go_upto_region 4 with (go_at_call 15; refine (HN2.out w3 A3.out).mono ?_; rintro e w4 ⟨r, rfl, h1, h2, h3⟩; obtain ⟨g, cap4, hr⟩ := own_slice h1 (by decide); subst hr; have A4 := Lib.hid h2; have F4 := Lib.hid (F3.out.trans h3 (fun _ h => .inl h)); have hc := found_cell h1 0 (by decide); clear h1 h2 h3)
  have d0 : w4.cell? ⟨g, 0, none⟩ = some (.int .i64 2) := hc.1
  have d1 : w4.cell? ⟨g, 1, none⟩ = some (.int .i64 2) := hc.2
  have HP := Lib.hid (b_place A4.out)
  clear hc HN0 HN1 HN2 FA FF A2 F2 A3 F3
  go_wp2_with (go_at_call 17; refine HP.out.mono ?_; rintro e w5 ⟨rfl, rfl⟩)
  go_ret
  exact ⟨rfl, F4.out.mono (fun k hk => .inr (by have := HB.out; omega))⟩

set_option maxHeartbeats 4000000 in
set_option maxRecDepth 100000 in
theorem bstFinds_walk (s0 : ByteArray) (win : Int) (w : World) :
    Calls Try.prog 5 #[.string s0, .int .i64 win] w fun e w' => e = .returned (.bool true) ∧ Fr (fun _ => False) w w' := by
  go_enter Try.func5, Try.ntmps5
  go_upto_region 3 with (go_at_call 13; refine (speaks08 w).mono ?_; rintro e w1 ⟨rfl, h⟩; have F1 := Lib.hid h; clear h)
  go_cut [0] (fun v0 w' => ∃ t : ByteArray, t.size ≤ 160 ∧ v0 = .string t ∧ w' = w1)
  case first =>
    by_cases h3 : s0.size ≤ 160
    all_goals
      go_wp2
      go_meet
      refine ⟨_, ?_, rfl, rfl⟩
      first | omega | (rw [ByteArray.size_extract]; split <;> omega) | (rw [ByteArray.size_extract]; omega)
  case rest =>
    obtain ⟨s, hs, rfl, hwc⟩ := hcut
    rw [hwc]
    clear hwc
    obtain ⟨B, hB⟩ : ∃ B, w1.heap.size = B := ⟨_, rfl⟩
    have hnw := b_new s (by omega) win w1
    rw [hB] at hnw
    have HN := Lib.hid hnw
    have HB : Hid (w.heap.size ≤ B) := by show _ ≤ _; have := F1.out.size; omega
    clear hnw hB
    go_upto_block 0 with (go_at_call 14; refine HN.out.mono ?_; rintro e w2 ⟨p, rfl, h1, h2⟩; have FA := Lib.hid h1; have FF : Hid (Fr (fun k => B ≤ k) w w2) := Lib.hid ((F1.out.trans h2 (fun _ h => .inl h)).mono (fun _ h => h.elim)); clear h1 h2)
    clear HN F1
    go_cut [6, 7, 8, 9] (fun _ _ _ _ wx => Hid (BstAt wx B p s win s.size) ∧ Hid (Fr (fun k => B ≤ k) w wx))
    case first =>
      go_wp2
      go_loopw [6, 7, 8, 9] (fun v6 _ _ _ wr => ∃ (i : Nat), i ≤ s.size ∧ v6 = .int .i64 (i : Int) ∧ Hid (BstAt wr B p s win i) ∧ Hid (Fr (fun k => B ≤ k) w wr)) (fun v6 _ _ _ _ => s.size - (intOf v6).toNat)
      case atStart => exact ⟨0, by omega, rfl, FA, FF⟩
      case round =>
        obtain ⟨i, hi, rfl, KA, KF⟩ := hrel
        clear FA FF
        by_cases hlt : i < s.size
        · have hlI : (i : Int) < (s.size : Int) := by omega
          have hnx := b_next KA.out (by omega) hlt
          have hrf := fun U => all_is s (by omega) i hi win U
          have hLn := bfound_le s win i
          obtain ⟨L, hL⟩ : ∃ L, bfound s win i = L := ⟨_, rfl⟩
          rw [hL] at hnx hLn
          rw [show (allH s.data.toList i (lim i win)).2 = L from hL] at hrf
          have HNx := Lib.hid hnx
          have HRf := Lib.hid hrf
          clear hnx hrf hL
          obtain ⟨N, hN⟩ : ∃ N, L.length = N := ⟨_, rfl⟩
          have HNL := Lib.hid hN
          rw [hN] at hLn
          go_upto_region 9 with (first
            | (go_at_call 15; refine HNx.out.mono ?_; rintro e w3 ⟨r, rfl, h1, h2, h3⟩; have R3 := Lib.hid h1; have A3 := Lib.hid h2; have F3 := Lib.hid (KF.out.trans h3 (fun _ h => .inl h)); clear h1 h2 h3)
            | (go_at_call 16; refine (HRf.out w3).mono ?_; rintro e w4 ⟨q, rfl, h1, h2⟩; have R4 := Lib.hid (own_keep R3.out h2 (fun _ _ x => x)); have Q4 := Lib.hid h1; have A4 := Lib.hid (A3.out.fresh h2); have F4 := Lib.hid (F3.out.trans h2 (fun _ h => h.elim)); clear h1 h2))
          clear HNx HRf KA KF R3 A3 F3 hN
          have HP := Lib.hid (b_place A4.out)
          obtain ⟨ad1, cap1, hr⟩ := own_any R4.out
          subst hr
          obtain ⟨ad2, cap2, hq⟩ := own_any Q4.out
          subst hq
          rw [HNL.out]
          go_upto_block 2 with (go_at_call 17; refine HP.out.mono ?_; rintro e w5 ⟨rfl, rfl⟩)
          go_wp2
          go_loopw [9] (fun v9 wr => ∃ k : Nat, k ≤ N ∧ v9 = .int .i64 (k : Int) ∧ Hid (Fr (fun _ => False) w5 wr)) (fun v9 _ => N - (intOf v9).toNat)
          case atStart => exact ⟨0, by omega, rfl, Fr.refl _ _⟩
          case round =>
            obtain ⟨k, hk, rfl, LF⟩ := hrel
            by_cases hlk : k < N
            · have hkI : (k : Int) < (N : Int) := by omega
              have hk0 : (0 : Int) ≤ (k : Int) := by omega
              have r5 := own_keep R4.out LF.out (fun _ _ x => x)
              have q5 := own_keep Q4.out LF.out (fun _ _ x => x)
              obtain ⟨g1, cap1', hr1⟩ := own_slice r5 (by rw [HNL.out]; omega)
              obtain ⟨g2, cap2', hr2⟩ := own_slice q5 (by rw [HNL.out]; omega)
              injection hr1 with hra hrb hrc
              injection hr2 with hqa hqb hqc
              subst hra hqa
              obtain ⟨d0, d1⟩ := found_cell r5 k (by rw [HNL.out]; exact hlk)
              obtain ⟨e0, e1⟩ := found_cell q5 k (by rw [HNL.out]; exact hlk)
              generalize (L[k]'(by rw [HNL.out]; exact hlk)).1 = x at *
              generalize (L[k]'(by rw [HNL.out]; exact hlk)).2 = y at *
              clear r5 q5
              go_upto_region 14 with fail
              go_region
              all_goals go_wp2
              all_goals go_roundw
              all_goals first
                | exact ⟨k + 1, by omega, by go_num, LF.out.drew⟩
                | (simp [intOf]; omega)
            · obtain rfl : k = N := by omega
              clear hlk hk
              go_wp2
              go_roundw
              case rel => exact ⟨i + 1, by omega, by go_num, A4.out.fresh LF.out, F4.out.trans LF.out (fun _ h => h.elim)⟩
              case measure => simp [intOf]; omega
        · obtain rfl : i = s.size := by omega
          clear hlt hi
          go_wp2
          go_meet
          exact ⟨KA, KF⟩
    case rest =>
      obtain ⟨KA, KF⟩ := hcut
      clear FA FF
      have hne := b_end KA.out rfl
      have HNe := Lib.hid hne
      clear hne
      go_wp2_with (first
        | (go_at_call 15; first
          | ((with_reducible show Calls _ _ #[Value.pointer none] _ _); refine (bsnext_nil _).mono ?_; rintro e w7 ⟨rfl, h⟩; have F7 := Lib.hid (F6.out.trans h (fun _ h => h.elim)); clear h)
          | (refine HNe.out.mono ?_; rintro e w6 ⟨rfl, h⟩; have A6 := Lib.hid (KA.out.fresh h); have F6 := Lib.hid (KF.out.trans h (fun _ h => h.elim)); clear h))
        | (go_at_call 17; first
          | ((with_reducible show Calls _ _ #[Value.pointer none] _ _); refine (bsplace_nil _).mono ?_; rintro e w9 ⟨rfl, rfl⟩)
          | (refine (b_place A6.out).mono ?_; rintro e w9 ⟨rfl, rfl⟩)))
      go_ret
      exact ⟨rfl, F7.out.mono (fun k hk => .inr (by have := HB.out; omega))⟩
end Go.Proofs.Ytjdmkffhhlijnaa
