/- ArenaPlays over no acts. -/
import Derived.Test.YtfmoagdhajfngaaPv
set_option linter.unusedVariables false
set_option linter.unusedSimpArgs false
namespace Go.Proofs.Ytfmoagdhajfngaa
open Go.RowKit Go.My Go.Maps

set_option maxHeartbeats 4000000 in
set_option maxRecDepth 100000 in
theorem arenaPlays_zero (cells : Int) (ao : Option Addr) (cap : Nat) (hcl : -9223372036854775808 ≤ cells ∧ cells ≤ 9223372036854775807) (w : World) :
    Calls Try.prog 8 #[.int .i64 cells, .slice ao 0 cap] w fun e w' => e = .returned (.bool true) ∧ Fr (fun k => w.heap.size ≤ k) w w' := by
  obtain ⟨hcl0, hcl1⟩ := hcl
  obtain ⟨T, hT⟩ : ∃ T, w.heap.size = T := ⟨_, rfl⟩
  rw [hT]
  have hsp := speaks17 w
  rw [hT] at hsp
  have HSp := Lib.hid hsp
  have hnw := fun W hW => i_newZ T cells hcl1 W hW
  have HN := Lib.hid hnw
  have HT := Lib.hid hT
  clear hnw hsp hT
  go_enter Try.func8, Try.ntmps8
  go_upto_region 4 with (first
    | (go_at_call 21; refine HSp.out.mono ?_; rintro e w1 ⟨rfl, f1⟩; have F1 := Lib.hid f1; clear f1)
    | (go_at_call 26; refine (HN.out w1 (by have := F1.out.size; have := HT.out; omega)).mono ?_; rintro e w2 ⟨rfl, h1, h2, h3⟩; have FA := Lib.hid h1; have F2 := Lib.hid (F1.out.trans h2 (fun _ h => h.elim)); clear h1 h2 h3))
  obtain ⟨R, hR⟩ : ∃ R, cells.toNat = R := ⟨_, rfl⟩
  rw [hR] at FA
  have hm : max cells 0 = (R : Int) := by omega
  have hR1 : (R : Int) ≤ 9223372036854775807 := by omega
  generalize w1.heap.size = p at *
  go_cut [6] (fun v6 wx => v6 = .int .i64 (R : Int) ∧ wx = w2)
  case first =>
    clear FA F1 HN HSp
    by_cases hneg : cells < 0
    · obtain rfl : R = 0 := by omega
      go_wp2
      go_meet
      case rel => exact ⟨rfl, rfl⟩
    · obtain rfl : cells = (R : Int) := by omega
      go_wp2
      go_meet
      case rel => exact ⟨rfl, rfl⟩
  case rest =>
    obtain ⟨rfl, hwc⟩ := hcut
    rw [hwc]
    clear hwc
    have hst := PlS.start FA.out F2.out (by have := F2.out.size; have := HT.out; omega)
    have HS := Lib.hid hst
    have m1 := made55 w2
    have m2 := made56 (w2.alloc (.map #[] 0))
    rw [show (w2.alloc (.map #[] 0)).heap.size = w2.heap.size + 1 by simp] at m2
    obtain ⟨mb0, hmb⟩ : ∃ x, w2.heap.size = x := ⟨_, rfl⟩
    obtain ⟨mv, hmv⟩ : ∃ x, mb0 + 1 = x := ⟨_, rfl⟩
    rw [hmb] at HS m1 m2
    rw [hmv] at HS m2
    generalize (w2.alloc (.map #[] 0)).alloc (.map #[] 0) = W0 at *
    clear HN F1 HSp hst hR hmb hmv
    clear F2 FA
    go_upto_region 6 with fail
    clear m1 m2 hm hcl0 hcl1
    go_wp2
    go_loopw [7, 9, 10, 11, 12, 13, 14, 15, 16, 17, 18] (fun v7 v9 v10 v11 _ _ _ _ _ _ _ wr => v11 = .int .i64 0 ∧ wr = W0) (fun _ _ _ _ _ _ _ _ _ _ _ _ => 0)
    case atStart => exact ⟨rfl, rfl⟩
    case round =>
      obtain ⟨rfl, rfl⟩ := hrel
      go_wp2_with (first
        | (go_at_call 29; refine (nil_clear _).mono ?_; rintro e w5 ⟨rfl, hw⟩; rw [hw]; clear hw)
        | (go_at_call 30; refine (nil_take _ _).mono ?_; rintro e w5 ⟨rfl, hw⟩; rw [hw]; clear hw)
        | (go_at_call 28; refine (nil_at _ _).mono ?_; rintro e w5 ⟨rfl, hw⟩; rw [hw]; clear hw)
        | (go_at_call 27; refine (nil_free _ _).mono ?_; rintro e w5 ⟨rfl, hw⟩; rw [hw]; clear hw)
        | (go_at_call 31; refine (nil_left _).mono ?_; rintro e w5 ⟨rfl, hw⟩; rw [hw]; clear hw))
      go_ret
      exact ⟨rfl, HS.out.fr⟩
end Go.Proofs.Ytfmoagdhajfngaa
