/- StateNext: the walk of the law. -/
import Derived.Test.YtfmoagdhajfngaaDoorLw
namespace Go.Proofs.YtfmoagdhajfngaaDoor
open Go.RowKit Go.My Go.St

def Dr (w w' : World) : Prop := ∃ n, w' = w.drewN n
theorem Tab.drewN {w : World} (h : Tab w) (n : Nat) : Tab (w.drewN n) := ⟨h.c4, h.c5, h.c6, h.c7, h.c8, h.c9⟩
theorem nx_range (s k : Int) (h : 0 ≤ s ∧ s ≤ 11) : 0 ≤ nx s k ∧ nx s k ≤ 11 := by unfold nx; (repeat' split) <;> omega
theorem next_is' (s k : Int) (hs : 0 ≤ s ∧ s ≤ 11) (w : World) (hT : Tab w) : Calls Tryd.prog 6 #[.int .i64 s, .int .i64 k] w fun e w' => e = .returned (.int .i64 (nx s k)) ∧ w' = w :=
  (next_is s k hs w hT).mono fun _ _ ⟨he, hw⟩ => ⟨he, hw.symm⟩
theorem refnext_is' (s k : Int) (hs : 0 ≤ s ∧ s ≤ 11) (w : World) : Calls Tryd.prog 7 #[.int .i64 s, .int .i64 k] w fun e w' => e = .returned (.int .i64 (nx s k)) ∧ w' = w :=
  (refnext_is s k hs w).mono fun _ _ ⟨he, hw⟩ => ⟨he, hw.symm⟩

set_option maxRecDepth 100000 in
theorem stateNext_none (f : Int) (hf : 0 ≤ f ∧ f < 256) (a : Option Addr) (cap : Nat) (w : World) (hT : Tab w) :
    Calls Tryd.prog 3 #[.int .u8 f, .slice a 0 cap] w fun e w' => e = .returned (.bool true) ∧ Dr w w' := by
  obtain ⟨hf0, hf1⟩ := hf
  have HT := Lib.hid hT
  clear hT
  go_enter Tryd.func3, Tryd.ntmps3
  go_wp2_with (go_at_call 5; refine (speaks09 _ HT.out).mono ?_; rintro e w' ⟨rfl, rfl⟩)
  go_loopw [5, 6, 7] (fun v5 v6 v7 wr => v7 = .int .i64 0 ∧ wr = w) (fun _ _ _ _ => 0)
  case atStart => exact ⟨rfl, rfl⟩
  case round =>
    obtain ⟨rfl, rfl⟩ := hrel
    go_wp2
    go_ret
    exact ⟨rfl, 0, rfl⟩

set_option maxHeartbeats 1000000 in
set_option maxRecDepth 100000 in
theorem stateNext_some (f : Int) (hf : 0 ≤ f ∧ f < 256) (b off len cap : Nat) (zs : List Int) (hlen : len ≤ 9223372036854775807) (w : World) (hT : Tab w)
    (hc : ∀ i, i < len → w.cell? ⟨b, off + i, none⟩ = some (.int .i64 (zs.getD i 0))) :
    Calls Tryd.prog 3 #[.int .u8 f, .slice (some ⟨b, off, none⟩) len cap] w fun e w' => e = .returned (.bool true) ∧ Dr w w' := by
  obtain ⟨hf0, hf1⟩ := hf
  have HT := Lib.hid hT
  have Hc := Lib.hid hc
  clear hT hc
  go_enter Tryd.func3, Tryd.ntmps3
  go_wp2_with (go_at_call 5; refine (speaks09 _ HT.out).mono ?_; rintro e w' ⟨rfl, rfl⟩)
  go_loopw [5, 6, 7] (fun v5 v6 v7 wr => ∃ (i : Nat) (s : Int), i ≤ len ∧ i ≤ 40 ∧ 0 ≤ s ∧ s ≤ 11 ∧ v5 = .int .i64 s ∧ v6 = .int .i64 s ∧ v7 = .int .i64 (i : Int) ∧ Hid (Dr w wr)) (fun _ _ v7 _ => len - (intOf v7).toNat)
  case atStart => exact ⟨0, f % 12, Nat.zero_le _, Nat.zero_le _, by omega, by omega, rfl, rfl, rfl, ⟨0, rfl⟩⟩
  case round =>
    obtain ⟨i, s, hi, hi40, hs0, hs1, rfl, rfl, rfl, hD⟩ := hrel
    by_cases hlt : i < len
    · by_cases h40 : i < 40
      · have hcell : wr.cell? ⟨b, off + i, none⟩ = some (.int .i64 (zs.getD i 0)) := by
          obtain ⟨n, hn⟩ := hD.out
          rw [hn]; exact Hc.out i hlt
        have hT2 : ∀ m, Tab (wr.drewN m) := fun m => by
          obtain ⟨n, hn⟩ := hD.out
          rw [hn]; exact (HT.out.drewN n).drewN m
        obtain ⟨z, hz⟩ : ∃ z, zs.getD i 0 = z := ⟨_, rfl⟩
        rw [hz] at hcell
        have hx0 : (0 : Int) ≤ (i : Int) := by omega
        have hx1 : (i : Int) < (len : Int) := by omega
        have hr := nx_range s z ⟨hs0, hs1⟩
        have HT2 := Lib.hid hT2
        have hs : Hid (0 ≤ s ∧ s ≤ 11) := ⟨hs0, hs1⟩
        have c6 : ∀ m, Calls Tryd.prog 6 #[.int .i64 s, .int .i64 z] (wr.drewN m) fun e w' => e = .returned (.int .i64 (nx s z)) ∧ w' = wr.drewN m := fun m => next_is' s z hs.out _ (HT2.out m)
        have c7 : ∀ W, Calls Tryd.prog 7 #[.int .i64 s, .int .i64 z] W fun e w' => e = .returned (.int .i64 (nx s z)) ∧ w' = W := fun W => refnext_is' s z hs.out W
        have hn : ∃ r, nx s z = r := ⟨_, rfl⟩
        obtain ⟨r, hr2⟩ := hn
        rw [hr2] at c6 c7 hr
        have C6 := Lib.hid c6
        have C7 := Lib.hid c7
        obtain ⟨hr0, hr11⟩ := hr
        have q1 : decide (r < 0) = false := by simp; omega
        have q2 : decide (11 < r) = false := by simp; omega
        clear c6 c7 hz hr2 hT2
        go_wp2
        go_quiet ((first | (go_at_call 6; exact Calls.quiet_of_same (C6.out _)) | (go_at_call 7; exact Calls.quiet_of_same (C7.out _))))
        go_wp2_with (go_at_call 8; refine (literal_is _ _).mono ?_; rintro e w' ⟨rfl, rfl⟩)
        go_roundw
        case rel => exact ⟨i + 1, r, by omega, by omega, hr0, hr11, rfl, rfl, by go_num, by obtain ⟨n, hn⟩ := hD.out; exact ⟨n + nq, by rw [hn, World.drewN_drewN]⟩⟩
        case measure => simp [intOf]; omega
      · go_wp2
        go_ret
        exact ⟨rfl, hD.out⟩
    · go_wp2
      go_ret
      exact ⟨rfl, hD.out⟩
end Go.Proofs.YtfmoagdhajfngaaDoor
