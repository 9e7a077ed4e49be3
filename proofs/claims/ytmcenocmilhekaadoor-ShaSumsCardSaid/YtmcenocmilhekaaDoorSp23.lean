/- Layer 23: what its law asks first. -/
import Derived.Test.YtmcenocmilhekaaDoorSh7
import Derived.Test.YtmcenocmilhekaaDoorKTb
import Derived.Deep.QuietTactic
namespace Go.Proofs.YtmcenocmilhekaaDoor
set_option linter.unusedVariables false
open Go.RowKit Go.My Go.Sha

theorem sum_empty4 : (sumS ⟨#[]⟩).extract 0 4 = ⟨#[227, 176, 196, 66]⟩ := by
  have e : sumS ⟨#[]⟩ = ⟨(Sha.bytes ⟨0xe3b0c442, 0x98fc1c14, 0x9afbf4c8, 0x996fb924, 0x27ae41e4, 0x649b934c, 0xa495991b, 0x7852b855⟩).toArray⟩ := by
    unfold sumS
    rw [show (⟨#[]⟩ : ByteArray).data.toList = [] from rfl, empty_sum]
  rw [e]
  decide +kernel
theorem sum_abc4 : (sumS ⟨#[97, 98, 99]⟩).extract 0 4 = ⟨#[186, 120, 22, 191]⟩ := by decide +kernel
theorem sumS_size' (s : ByteArray) : (sumS s).size = 32 := by
  have : (sumS s).size = (Sha.bytes (sumL s.data.toList)).length := rfl
  rw [this, bytes_length]

set_option maxHeartbeats 2000000 in
set_option maxRecDepth 100000 in
theorem speaks23 (w : World) (hT : KTab w) : Calls Tryd.prog 7 #[] w fun e w' => e = .returned (.bool true) ∧ Fr (fun _ => False) w w' := by
  have h1 := fun W (hW : KTab W) => sum_is ⟨#[]⟩ (by decide) W hW
  have h2 := fun W (hW : KTab W) => sum_is ⟨#[97, 98, 99]⟩ (by decide) W hW
  have e1 := sum_empty4
  have e2 := sum_abc4
  have s1 := sumS_size' ⟨#[]⟩
  have s2 := sumS_size' ⟨#[97, 98, 99]⟩
  generalize sumS ⟨#[]⟩ = a at *
  generalize sumS ⟨#[97, 98, 99]⟩ = b at *
  have H1 := Lib.hid h1
  have H2 := Lib.hid h2
  have HT := Lib.hid hT
  clear h1 h2 hT
  go_enter Tryd.func7, Tryd.ntmps7
  go_wp2_with (go_at_call 8; first
    | (with_reducible show Calls _ _ #[Value.string ⟨#[]⟩] _ _; refine (H1.out _ HT.out).mono ?_; rintro e w1 ⟨rfl, h⟩; have F1 := Lib.hid h; clear h)
    | (with_reducible show Calls _ _ #[Value.string ⟨#[97, 98, 99]⟩] _ _; refine (H2.out _ (HT.out.keep F1.out)).mono ?_; rintro e w2 ⟨rfl, h⟩; have F2 := Lib.hid h; clear h))
  go_ret
  exact ⟨rfl, F1.out.trans F2.out (fun _ h => .inl h)⟩

end Go.Proofs.YtmcenocmilhekaaDoor
