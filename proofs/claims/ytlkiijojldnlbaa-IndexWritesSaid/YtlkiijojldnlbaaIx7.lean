/- Layer 27 (index): IndexReads. -/
import Derived.Test.YtlkiijojldnlbaaIx6
import Derived.Deep.DeepCutAuto
namespace Go.Proofs.Ytlkiijojldnlbaa
set_option linter.unusedVariables false
open Go.RowKit Go.My Go.Ix

theorem decR_len {b : List UInt8} {L : List (List UInt8 × Nat)} (h : decR b = some L) : L.length ≤ b.length := by
  unfold decR at h
  split at h
  · cases h
  · rename_i h4
    rcases hs : stN b (le (b.take 4)) with _ | ⟨r, t, l⟩
    · rw [hs] at h
      cases h
    · rw [hs] at h
      dsimp only at h
      split at h
      · simp only [Option.some.injEq] at h
        subst h
        have := stN_len (by omega) _ hs
        omega
      · cases h

set_option maxHeartbeats 8000000 in
set_option maxRecDepth 100000 in
theorem indexReads_walk (s0 : ByteArray) (w : World) :
    Calls Try.prog 5 #[.string s0] w fun e w' => e = .returned (.bool true) ∧ Fr (fun _ => False) w w' := by
  go_enter Try.func5, Try.ntmps5
  go_upto_region 3 with (go_at_call 16; refine (speaks27 w).mono ?_; rintro e w1 ⟨rfl, h⟩; have F1 := Lib.hid h; clear h)
  go_cut [0] (fun v0 w' => ∃ t : ByteArray, t.size ≤ 200 ∧ v0 = .string t ∧ w' = w1)
  case first =>
    by_cases h3 : s0.size ≤ 200
    all_goals
      go_wp2
      go_meet
      refine ⟨_, ?_, rfl, rfl⟩
      first | omega | (rw [ByteArray.size_extract]; split <;> omega) | (rw [ByteArray.size_extract]; omega)
  case rest =>
    obtain ⟨s, hs, rfl, hwc⟩ := hcut
    rw [hwc]
    clear hwc
    obtain ⟨b, hb⟩ : ∃ b, s.data.toList = b := ⟨_, rfl⟩
    have hsb : s = ⟨b.toArray⟩ := by rw [← hb]
    have hbs : s.size = s.data.toList.length := by simp
    have hbl : b.length ≤ 200 := by rw [← hb]; omega
    clear hbs
    have hd := fun U => decode_is b (by omega) U
    have hr := fun U => refDecode_is b (by omega) U
    rw [← hsb] at hd hr
    rcases hD : decR b with _ | L
    · rw [hD] at hd hr
      dsimp only at hd hr
      have Hd := Lib.hid hd
      have Hr := Lib.hid hr
      clear hd hr hD hsb hb hbl
      go_upto_region 6 with (first
        | (go_at_call 17; refine (Hd.out w1).mono ?_; rintro e w3 ⟨⟨v, rfl, rfl⟩, hf⟩; have F3 := Lib.hid (F1.out.trans hf (fun _ h => .inl h)); clear hf)
        | (go_at_call 18; refine (Hr.out w3).mono ?_; rintro e w4 ⟨⟨v, rfl⟩, hf⟩; have F4 := Lib.hid (F3.out.trans hf (fun _ h => .inl h)); clear hf))
      go_wp2
      go_ret
      exact ⟨rfl, F4.out⟩
    · rw [hD] at hd hr
      dsimp only at hd hr
      have Hd := Lib.hid hd
      have Hr := Lib.hid hr
      have hLn := decR_len hD
      clear hd hr hD hsb hb
      obtain ⟨n, hn⟩ : ∃ n, L.length = n := ⟨_, rfl⟩
      have hn2 : n ≤ 1000 := by omega
      have hn3 : (n : Int) ≤ 1000 := by omega
      clear hLn hbl
      have Hn := Lib.hid hn
      clear hn
      go_upto_region 6 with (first
        | (go_at_call 17; refine (Hd.out w1).mono ?_; rintro e w3 ⟨⟨v, hv, rfl⟩, hf⟩; have R3 := Lib.hid hv; have F3 := Lib.hid (F1.out.trans hf (fun _ h => .inl h)); clear hf hv)
        | (go_at_call 18; refine (Hr.out w3).mono ?_; rintro e w4 ⟨⟨q, hq, rfl⟩, hf⟩; have Q4 := Lib.hid hq; have R4 := Lib.hid (own_keep R3.out hf (fun _ _ x => x)); have F4 := Lib.hid (F3.out.trans hf (fun _ h => .inl h)); clear hf hq))
      obtain ⟨a1, p1, hv1⟩ := own_any R4.out
      subst hv1
      obtain ⟨a2, p2, hv2⟩ := own_any Q4.out
      subst hv2
      rw [Hn.out]
      clear R3 F3
      go_wp2
      go_loopw [7] (fun v7 wr => ∃ k : Nat, k ≤ n ∧ v7 = .int .i64 (k : Int) ∧ Hid (Fr (fun _ => False) w4 wr)) (fun v7 _ => n - (intOf v7).toNat)
      case atStart => exact ⟨0, Nat.zero_le _, rfl, Fr.refl _ _⟩
      case round =>
        obtain ⟨k, hk, rfl, KF⟩ := hrel
        by_cases hlt : k < n
        · have hkI : (k : Int) < (n : Int) := by omega
          have hk0 : (0 : Int) ≤ (k : Int) := by omega
          have hkL : k < L.length := by rw [Hn.out]; exact hlt
          have r5 := own_keep R4.out KF.out (fun _ _ x => x)
          have q5 := own_keep Q4.out KF.out (fun _ _ x => x)
          obtain ⟨g1, c1', e1⟩ := own_slice r5 (by omega)
          obtain ⟨g2, c2', e2⟩ := own_slice q5 (by omega)
          injection e1 with e1 _ _
          injection e2 with e2 _ _
          subst e1 e2
          obtain ⟨d0, d1⟩ := item_cell r5 k hkL
          obtain ⟨d2, d3⟩ := item_cell q5 k hkL
          generalize (⟨(L[k]'hkL).1.toArray⟩ : ByteArray) = X at *
          generalize (L[k]'hkL).2 = y at *
          clear r5 q5 hkL
          go_upto_region 13 with fail
          go_region
          all_goals go_wp2
          all_goals go_roundw
          all_goals first
            | exact ⟨k + 1, by omega, by go_num, KF.out.drew⟩
            | (simp [intOf]; done)
            | (simp [intOf]; omega)
            | trace_state
        · obtain rfl : k = n := by omega
          clear hlt hk
          go_wp2
          go_ret
          exact ⟨rfl, F4.out.trans KF.out (fun _ h => .inl h)⟩
end Go.Proofs.Ytlkiijojldnlbaa
