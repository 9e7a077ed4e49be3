/- Walks of layer 25 (aes): the place of a round key's byte. -/
import Derived.Test.YtmcenocmilhekaaAe6
namespace Go.Proofs.Ytmcenocmilhekaa
set_option linter.unusedVariables false
open Go.RowKit Go.My Go.Aes

set_option maxRecDepth 100000 in
theorem at_is (c i : Nat) (hi : i < 240) (w : World) : Calls Try.prog 23 #[.pointer (some ⟨c, 0, none⟩), .int .i64 (i : Int)] w fun e w' => e = .returned (.pointer (some ⟨c, 256 + i, none⟩)) ∧ Fr (fun _ => False) w w' := by
  obtain ⟨q, hq⟩ : ∃ q, i / 16 = q := ⟨_, rfl⟩
  obtain ⟨r, hr⟩ : ∃ r, i % 16 = r := ⟨_, rfl⟩
  have hqI : (i : Int) / 16 = (q : Int) := by omega
  have hrI : (i : Int) % 16 = (r : Int) := by omega
  have hq15 : (q : Int) < 15 := by omega
  have hr16 : (r : Int) < 16 := by omega
  have hq0 : (0 : Int) ≤ (q : Int) := by omega
  have hr0 : (0 : Int) ≤ (r : Int) := by omega
  have he : i = q * 16 + r := by omega
  have He := Lib.hid he
  clear hq hr he
  go_enter Try.func23, Try.ntmps23
  go_wp2
  go_ret
  have e : 256 + i = 256 + q * 16 + r := by have := He.out; omega
  exact ⟨by rw [e]; rfl, Fr.refl _ _⟩
end Go.Proofs.Ytmcenocmilhekaa
