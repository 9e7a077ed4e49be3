/- Layer 3 (rc): no encoder and no decoder answer. -/
import Derived.Test.YtpddocehjljofaaDec4
import Derived.Test.YtpddocehjljofaaEnc4
namespace Go.Proofs.Ytpddocehjljofaa
open Go.RowKit Go.My

set_option maxRecDepth 100000 in
theorem enc_bit_nil (a b : Value) (w : World) : Calls Try.prog 20 #[.pointer none, a, b] w fun r w' => r = .returned (.tuple #[]) ∧ w = w' := by
  go_enter Try.func20, Try.ntmps20
  go_wp2
  (try simp only [Exit.inBlock, Exit.then])
  refine bodyPost_ret (results_none rfl _ _ _) rfl ?_
  exact ⟨rfl, rfl⟩
set_option maxRecDepth 100000 in
theorem enc_direct_nil (a b : Value) (w : World) : Calls Try.prog 15 #[.pointer none, a, b] w fun r w' => r = .returned (.tuple #[]) ∧ w = w' := by
  go_enter Try.func15, Try.ntmps15
  go_wp2
  (try simp only [Exit.inBlock, Exit.then])
  refine bodyPost_ret (results_none rfl _ _ _) rfl ?_
  exact ⟨rfl, rfl⟩
set_option maxRecDepth 100000 in
theorem enc_part_nil (a b c : Value) (w : World) : Calls Try.prog 18 #[.pointer none, a, b, c] w fun r w' => r = .returned (.tuple #[]) ∧ w = w' := by
  go_enter Try.func18, Try.ntmps18
  go_wp2
  (try simp only [Exit.inBlock, Exit.then])
  refine bodyPost_ret (results_none rfl _ _ _) rfl ?_
  exact ⟨rfl, rfl⟩
set_option maxRecDepth 100000 in
theorem enc_end_nil (w : World) : Calls Try.prog 22 #[.pointer none] w fun r w' => r = .returned (.string ⟨#[]⟩) ∧ w = w' := by
  go_enter Try.func22, Try.ntmps22
  go_wp2
  go_ret
  exact ⟨rfl, rfl⟩
set_option maxRecDepth 100000 in
theorem dec_bit_nil (a : Value) (w : World) : Calls Try.prog 28 #[.pointer none, a] w fun r w' => r = .returned (.int .i64 0) ∧ w = w' := by
  go_enter Try.func28, Try.ntmps28
  go_wp2
  go_ret
  exact ⟨rfl, rfl⟩
set_option maxRecDepth 100000 in
theorem dec_direct_nil (a : Value) (w : World) : Calls Try.prog 25 #[.pointer none, a] w fun r w' => r = .returned (.int .u32 0) ∧ w = w' := by
  go_enter Try.func25, Try.ntmps25
  go_wp2
  go_ret
  exact ⟨rfl, rfl⟩
set_option maxRecDepth 100000 in
theorem dec_where_nil (a : Value) (w : World) : Calls Try.prog 26 #[.pointer none, a] w fun r w' => r = .returned (.int .u32 0) ∧ w = w' := by
  go_enter Try.func26, Try.ntmps26
  go_wp2
  go_ret
  exact ⟨rfl, rfl⟩
set_option maxRecDepth 100000 in
theorem dec_take_nil (a b : Value) (w : World) : Calls Try.prog 27 #[.pointer none, a, b] w fun r w' => r = .returned (.tuple #[]) ∧ w = w' := by
  go_enter Try.func27, Try.ntmps27
  go_wp2
  (try simp only [Exit.inBlock, Exit.then])
  refine bodyPost_ret (results_none rfl _ _ _) rfl ?_
  exact ⟨rfl, rfl⟩
end Go.Proofs.Ytpddocehjljofaa
