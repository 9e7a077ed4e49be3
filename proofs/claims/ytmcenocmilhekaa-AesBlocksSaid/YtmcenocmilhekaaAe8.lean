/- Walks of layer 25 (aes): each four bytes mixed. -/
import Derived.Test.YtmcenocmilhekaaAeP
import Derived.Deep.RegionWith
import Derived.Deep.RegionHeld3
import Derived.Deep.MidRow
namespace Go.Proofs.Ytmcenocmilhekaa
set_option linter.unusedVariables false
open Go.RowKit Go.My Go.Aes

set_option maxRecDepth 100000 in
theorem mixAt_is (w : World) (pf pi p o n cap i k j x : Nat) (hi : i < 16) (hk : k < 4) (hn : 4 ≤ n) (hj : (i + k) % 4 = j)
    (cf : w.cell? ⟨pf, 0, none⟩ = some (.slice (some ⟨p, o, none⟩) n cap)) (ci : w.cell? ⟨pi, 0, none⟩ = some (.int .i64 (i : Int))) (cx : w.cell? ⟨p, o + j, none⟩ = some (.int .u8 (x : Int))) :
    Calls Try.prog 25 #[.int .i64 (k : Int), .pointer (some ⟨pf, 0, none⟩), .pointer (some ⟨pi, 0, none⟩)] w fun e w' => e = .returned (.int .u8 (x : Int)) ∧ w' = w := by
  have hjI : ((i : Int) + (k : Int)) % 4 = (j : Int) := by omega
  have hj4 : (j : Int) < (n : Int) := by omega
  have hj0 : (0 : Int) ≤ (j : Int) := by omega
  clear hj hn
  go_enter Try.func25, Try.ntmps25
  go_wp2
  go_ret
  exact ⟨rfl, rfl⟩
end Go.Proofs.Ytmcenocmilhekaa
