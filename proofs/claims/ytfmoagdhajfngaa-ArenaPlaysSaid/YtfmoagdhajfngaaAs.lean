/- Layer 17 (arena): the law's speaks. -/
import Derived.Test.YtfmoagdhajfngaaAw2
set_option linter.unusedVariables false
namespace Go.Proofs.Ytfmoagdhajfngaa
open Go.RowKit Go.My

theorem fr_step {B : Nat} {a b c : World} (h : Fr (fun k => B ≤ k) a b) (k : Fr (fun k => B ≤ k) b c) : Fr (fun k => B ≤ k) a c := h.trans k (fun i hi => .inl hi)

set_option maxRecDepth 100000 in
theorem speaks17 (w : World) : Calls Try.prog 21 #[] w fun e w' => e = .returned (.bool true) ∧ Fr (fun k => w.heap.size ≤ k) w w' := by
  go_enter Try.func21, Try.ntmps21
  go_upto_region 2 with (go_at_call 26; refine (i_new w.heap.size 2 (by omega) w (Nat.le_refl _)).mono ?_; rintro e w1 ⟨rfl, h1, f1⟩; have H1 := Lib.hid h1; have F1 := Lib.hid f1; clear h1 f1)
  generalize hp : w.heap.size = p at *
  go_upto_region 3 with (go_at_call 30; refine (i_take H1.out (by decide) (by decide) (by have := F1.out.size; omega) 7).mono ?_; rintro e w2 ⟨he, u2, b1, h2, f2, _⟩; replace he : e = .returned (.tuple #[.int .i64 1, .bool true]) := he; subst he; have H2 := Lib.hid h2; have F2 := Lib.hid (fr_step F1.out f2); clear h2 f2 H1 F1)
  go_upto_region 4 with (go_at_call 30; refine (i_take H2.out (by simp) (by simp) (by have := F2.out.size; omega) 8).mono ?_; rintro e w3 ⟨he, u3, b2, h3, f3, _⟩; replace he : e = .returned (.tuple #[.int .i64 2, .bool true]) := he; subst he; have H3 := Lib.hid h3; have F3 := Lib.hid (fr_step F2.out f3); clear h3 f3 H2 F2)
  go_upto_region 5 with (go_at_call 30; refine (i_full H3.out (by simp) (by simp) 9).mono ?_; rintro e w4 ⟨rfl, n, rfl⟩; have H4 := Lib.hid (H3.out.drewN n); have F4 := Lib.hid (F3.out.drewN n); clear H3 F3)
  generalize w3.drewN n = w4 at *
  go_upto_region 7 with (go_at_call 27; refine (i_free H4.out (by have := F4.out.size; omega) (by decide) (k0 := 0) (b := b1) (v := .int .i64 7) rfl).mono ?_; rintro e w5 ⟨rfl, u5, h5, f5⟩; have H5 := Lib.hid h5; have F5 := Lib.hid (fr_step F4.out f5); clear h5 f5 H4 F4)
  go_upto_region 8 with (go_at_call 30; refine (i_retake (gs := []) (k0 := 0) H5.out (by simp) (b := b1) (v := .int .i64 0) (t := false) rfl 5).mono ?_; rintro e w6 ⟨he, u6, h6, f6⟩; replace he : e = .returned (.tuple #[.int .i64 1, .bool true]) := he; subst he; have H6 := Lib.hid h6; have F6 := Lib.hid (fr_step F5.out f6); clear h6 f6 H5 F5)
  have hat := i_at_in H6.out 0 b1 (.int .i64 5) true rfl
  simp only [if_true] at hat
  have Hat := Lib.hid hat
  clear hat
  have hcb := (H6.out.cell 0 b1 (.int .i64 5) true rfl).1
  have b0 : w6.cell? ⟨b1, 0, none⟩ = some (.int .i64 5) := (cell_of hcb 0).trans rfl
  clear hcb
  go_wp2_with (go_at_call 28; refine Hat.out.mono ?_; rintro e w7 ⟨rfl, hw⟩; rw [hw]; clear hw)
  go_ret
  exact ⟨rfl, by have := F6.out; rw [← hp] at this; exact this⟩
end Go.Proofs.Ytfmoagdhajfngaa
