/- WindowPlays over no acts. -/
import Derived.Test.YtfmoagdhajfngaaWinX
namespace Go.Proofs.Ytfmoagdhajfngaa
open Go.RowKit Go.My

set_option maxHeartbeats 4000000 in
set_option maxRecDepth 100000 in
theorem windowPlays_zero (most : Int) (a : Option Addr) (cap : Nat) (hm : -9223372036854775808 ≤ most ∧ most ≤ 9223372036854775807) (w : World) :
    Calls Try.prog 6 #[.int .i64 most, .slice a 0 cap] w fun e w' => e = .returned (.bool true) ∧ Below w.heap.size w w' := by
  obtain ⟨hm0, hm1⟩ := hm
  go_enter Try.func6, Try.ntmps6
  go_wp2_with (go_at_call 14; refine (speaks02 _).mono ?_; rintro e w1 ⟨rfl, hb1⟩; have Hb1 := Lib.hid hb1; clear hb1)
  refine (own_new w _ Hb1.out most).mono ?_
  rintro e w2 ⟨rfl, h2⟩
  generalize w1.heap.size = p at *
  have H2 := Lib.hid h2
  clear h2
  go_upto_region 4 with fail
  go_cut [6] (fun v6 wx => wx = w2)
  case first =>
    by_cases hneg : most < 0
    · go_wp2
      go_meet
      case rel => exact rfl
    · go_wp2
      go_meet
      case rel => exact rfl
  case rest =>
    subst hcut
    go_wp2_with fail
    go_loopw [7, 8] (fun v7 v8 wr => v8 = .int .i64 0 ∧ wr = wc) (fun _ _ _ => 0)
    case atStart => exact ⟨rfl, rfl⟩
    case round =>
      obtain ⟨rfl, rfl⟩ := hrel
      go_wp2_with (first | (go_at_call 19; refine (at_nil _ _).mono ?_; rintro e w' ⟨rfl, rfl⟩) | (go_at_call 16; refine (put_nil _ _).mono ?_; rintro e w' ⟨rfl, n1, rfl⟩) | (go_at_call 17; refine (copy_nil _ _ _).mono ?_; rintro e w' ⟨rfl, n2, rfl⟩) | (go_at_call 20; refine (len_nil _).mono ?_; rintro e w' ⟨rfl, rfl⟩) | (go_at_call 18; refine (text_nil _).mono ?_; rintro e w' ⟨rfl, rfl⟩))
      go_ret
      exact ⟨rfl, by first | exact below_draw H2.out.below _ | exact below_draw (below_draw H2.out.below _) _⟩
end Go.Proofs.Ytfmoagdhajfngaa
