/- ShaSums: the walk of the law. -/
import Derived.Test.YtmcenocmilhekaaDoorSh8
import Derived.Test.YtmcenocmilhekaaDoorSp23
import Derived.Deep.QuietTactic
namespace Go.Proofs.YtmcenocmilhekaaDoor
set_option linter.unusedVariables false
open Go.RowKit Go.My Go.Sha

set_option maxHeartbeats 2000000 in
set_option maxRecDepth 100000 in
theorem shaSums_walk (s : ByteArray) (w : World) (hT : KTab w) :
    Calls Tryd.prog 3 #[.string s] w fun e w' => e = .returned (.bool true) ∧ Fr (fun _ => False) w w' := by
  have HT := Lib.hid hT
  clear hT
  go_enter Tryd.func3, Tryd.ntmps3
  go_upto_region 3 with (go_at_call 7; refine (speaks23 _ HT.out).mono ?_; rintro e w1 ⟨rfl, h⟩; have F1 := Lib.hid h; clear h)
  go_cut [0] (fun v0 w' => ∃ t : ByteArray, t.size ≤ 200 ∧ v0 = .string t ∧ w' = w1)
  case first =>
    by_cases h3 : s.size ≤ 200
    · go_wp2
      go_meet
      case rel => refine ⟨_, ?_, rfl, rfl⟩; (first | omega | (rw [ByteArray.size_extract]; omega))
    · go_wp2
      go_meet
      case rel => refine ⟨_, ?_, rfl, rfl⟩; (first | omega | (rw [ByteArray.size_extract]; omega))
  case rest =>
    obtain ⟨t, ht, rfl, rfl⟩ := hcut
    have h1 := fun W (hW : KTab W) => sum_is t (by omega) W hW
    have h2 := fun v W (hK : KRow W v) => rsum_is t (by omega) v W hK
    generalize sumS t = R at *
    have H1 := Lib.hid h1
    have H2 := Lib.hid h2
    clear h1 h2
    go_wp2_with (first
      | (go_at_call 8; refine (H1.out _ (HT.out.keep F1.out)).mono ?_; rintro e w2 ⟨rfl, h⟩; have F2 := Lib.hid h; clear h)
      | (go_at_call 10; refine (constants_is _).mono ?_; rintro e w3 ⟨v, rfl, hK, h⟩; have F3 := Lib.hid h; have HK := Lib.hid hK; clear h hK)
      | (go_at_call 9; refine (H2.out _ _ HK.out).mono ?_; rintro e w4 ⟨rfl, h⟩; have F4 := Lib.hid h; clear h))
    go_ret
    exact ⟨by simp, ((F1.out.trans F2.out (fun _ h => .inl h)).trans F3.out (fun _ h => .inl h)).trans F4.out (fun _ h => .inl h)⟩
end Go.Proofs.YtmcenocmilhekaaDoor
