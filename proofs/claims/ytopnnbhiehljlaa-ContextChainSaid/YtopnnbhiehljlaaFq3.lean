/- Layer 5 (freq): any sign is got. -/
import Derived.Test.YtopnnbhiehljlaaFq2
namespace Go.Fq
theorem nth_lt (n : Nat → Bool) (f s w : Nat) : nth n f s w ≤ s + f := by
  induction f generalizing s w with
  | zero => simp [nth]
  | succ f ih =>
    simp only [nth]
    split
    · have := ih (s + 1) w; omega
    · split
      · omega
      · have := ih (s + 1) (w - 1); omega
end Go.Fq
namespace Go.Proofs.Ytopnnbhiehljlaa
set_option linter.unusedVariables false
open Go.RowKit Go.My

set_option maxHeartbeats 4000000 in
set_option maxRecDepth 10000 in
/-- Any sign is got, where there is one that isn't in the set. -/
theorem get_any_sign (pd : Nat) (d : Rc.D) (nv : Value) (f : Nat → Bool) (m : Nat) (w : World) (hd : DecAt w pd d) (hg : DecG d) (hn : NotAt w nv f m) (hm : m + Fq.below f 256 = 256) (hb : 1 ≤ Fq.below f 256) :
    Calls Try.prog 63 #[.pointer (some ⟨pd, 0, none⟩), nv] w fun r w' => r = .returned (.int .u8 ((Fq.getAny f d).1.toNat : Int)) ∧ DecAt w' pd (Fq.getAny f d).2 ∧ DecG (Fq.getAny f d).2 ∧ Fr (one pd) w w' := by
  have hble := Fq.below_le f 256
  have hlen := set_len nv f m w hn
  obtain ⟨T, hT⟩ : ∃ T, Fq.below f 256 = T := ⟨_, rfl⟩
  rw [hT] at hm hb hble
  have hwh := dec_where pd d T w hd hg hb (by omega)
  have hg2 : DecG (d.where_ T).2 := hg.where_ T
  have hgd : Fq.getAny f d = (UInt8.ofNat (Fq.nth f 256 0 (d.where_ T).1), (d.where_ T).2.take (d.where_ T).1 1) := by unfold Fq.getAny; rw [hT]
  have hwl : (d.where_ T).1 ≤ T - 1 := Nat.min_le_right _ _
  have hpt := Fq.where_part (d := d) (total := T) (s := (d.where_ T).1) (z := 1) (by omega) (Nat.le_refl _) (by omega) hg.lo hg.hi
  rw [hgd]
  obtain ⟨W, hW⟩ : ∃ W, (d.where_ T).1 = W := ⟨_, rfl⟩
  obtain ⟨D2, hD2⟩ : ∃ D2, (d.where_ T).2 = D2 := ⟨_, rfl⟩
  rw [hW, hD2] at hwh
  rw [hD2] at hg2 hpt
  rw [hW] at hwl
  rw [hW, hD2]
  have hmt : (256 : Int) - (m : Int) = (T : Int) := by omega
  have hmi : (m : Int) ≤ 256 := by omega
  have hTi : (T : Int) ≤ 256 := by omega
  have hWi : (W : Int) ≤ 256 := by omega
  obtain ⟨X, hX⟩ : ∃ X, Fq.nth f 256 0 W = X := ⟨_, rfl⟩
  rw [hX]
  have hXw : ∃ n : Nat, (X = n ∧ n < 256) ∨ X = 256 := by
    have := Fq.nth_lt f 256 0 W
    rw [hX] at this
    rcases Nat.lt_or_ge X 256 with h | h
    · exact ⟨X, .inl ⟨rfl, h⟩⟩
    · exact ⟨0, .inr (by omega)⟩
  clear hXw
  have hnn : ∀ w', Fr (one pd) w w' → NotAt w' nv f m := fun w' hf => hn.keep hf (fun k hk hk2 => by
    obtain ⟨cs, hc⟩ := hn.ty hk
    cases hk2
    exact ne_of_ty hc hd.blk (by decide) rfl)
  have Hlen := Lib.hid hlen
  have Hwh := Lib.hid hwh
  have Hg2 := Lib.hid hg2
  have Hpt := Lib.hid hpt
  have Hnn := Lib.hid hnn
  have HX := Lib.hid hX
  have HWb : Hid (W < 4294967296) := by show _ < _; omega
  clear hble hlen hT hm hb hwh hg2 hgd hwl hpt hW hD2 hX hnn hd hg hn
  go_enter Try.func63, Try.ntmps63
  go_wp2_with (first
    | (go_at_call 62; refine Hlen.out.mono ?_; rintro r w1 ⟨rfl, rfl⟩)
    | (go_at_call 70; refine Hwh.out.mono ?_; rintro r w2 ⟨rfl, h1, h2⟩; have H2 := Lib.hid h2; have ht := dec_take pd D2 W 1 w2 h1 Hg2.out.len Hpt.out.1 Hpt.out.2.1 Hpt.out.2.2 HWb.out (by decide); have Ht := Lib.hid ht; clear h1 h2 ht)
    | (go_at_call 71; refine Ht.out.mono ?_; rintro r w3 ⟨rfl, h1, h2⟩; have H1 := Lib.hid h1; have H3 := Lib.hid (one_trans H2.out h2); clear h1 h2))
  have hn3 := Hnn.out w3 H3.out
  have HN := Lib.hid hn3
  clear hn3
  go_loop [5, 16] (fun v5 v16 => ∃ s a : Nat, s ≤ 256 ∧ v16 = .int .i64 (s : Int) ∧ v5 = .int .u32 (a : Int) ∧ a ≤ 256 ∧ Hid (Fq.nth f (256 - s) s a = X)) (fun _ v16 => 256 - (intOf v16).toNat)
  case atStart => exact ⟨0, W, Nat.zero_le _, rfl, rfl, by omega, HX.out⟩
  case round =>
    obtain ⟨s, a, hs, rfl, rfl, hab, HN2⟩ := hrel
    have hai : (a : Int) ≤ 256 := by omega
    by_cases hlt : s < 256
    · have hsi : (s : Int) < 256 := by omega
      have hh := set_has nv f m s w3 HN.out hlt
      have hnx : Fq.nth f (256 - s) s a = if f s then Fq.nth f (256 - (s + 1)) (s + 1) a else if a = 0 then s else Fq.nth f (256 - (s + 1)) (s + 1) (a - 1) := by
        rw [show 256 - s = (256 - (s + 1)) + 1 by omega]
        rfl
      rw [HN2.out] at hnx
      by_cases hf : f s = true
      · rw [hf] at hh hnx
        have Hh := Lib.hid hh
        have Hnx : Hid (Fq.nth f (256 - (s + 1)) (s + 1) a = X) := hnx.symm
        clear hh hnx hf
        go_wp2_with (go_at_call 65; refine Hh.out.mono ?_; rintro r5 w5 ⟨rfl, rfl⟩)
        go_round
        case rel => exact ⟨s + 1, a, by omega, by go_num, rfl, hab, Hnx⟩
        case measure => simp [intOf]; omega
      · have hff : f s = false := by simpa using hf
        rw [hff] at hh hnx
        have Hh := Lib.hid hh
        rcases Nat.eq_zero_or_pos a with rfl | hpos
        · have hXs : X = s := by simpa using hnx
          subst hXs
          clear hh hnx hf hff
          go_wp2_with (go_at_call 65; refine Hh.out.mono ?_; rintro r5 w5 ⟨rfl, rfl⟩)
          go_ret
          exact ⟨by simp; omega, H1.out, Hg2.out.take Hpt.out.1 Hpt.out.2.1, H3.out⟩
        · have hne : ((a : Int) == 0) = false := by simp; omega
          have ha1 : (1 : Int) ≤ (a : Int) := by omega
          have hnx2 : Fq.nth f (256 - (s + 1)) (s + 1) (a - 1) = X := by
            have h0 : ¬ a = 0 := by omega
            rw [if_neg (by simp), if_neg h0] at hnx
            exact hnx.symm
          have Hnx := Lib.hid hnx2
          clear hh hnx hf hff hnx2
          go_wp2_with (go_at_call 65; refine Hh.out.mono ?_; rintro r5 w5 ⟨rfl, rfl⟩)
          go_round
          case rel => exact ⟨s + 1, a - 1, by omega, by go_num, by rw [show ((a - 1 : Nat) : Int) = (a : Int) - 1 by omega], by omega, Hnx⟩
          case measure => simp [intOf]; omega
    · obtain rfl : s = 256 := by omega
      have hX : X = 256 := HN2.out.symm
      subst hX
      go_wp2
      go_ret
      exact ⟨rfl, H1.out, Hg2.out.take Hpt.out.1 Hpt.out.2.1, H3.out⟩
end Go.Proofs.Ytopnnbhiehljlaa
