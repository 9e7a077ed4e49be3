/- Layer 26: what its laws ask first. -/
import Derived.Test.YtmcenocmilhekaaDoorKy
import Derived.Deep.RegionHeld3
namespace Go.Proofs.YtmcenocmilhekaaDoor
set_option linter.unusedVariables false
open Go.RowKit Go.My Go.Sha

set_option maxHeartbeats 0 in
theorem keys_differ : hmacS (hN ⟨#[112]⟩ ⟨#[115]⟩ 2) ⟨#[99, 105, 112, 104, 101, 114]⟩ ≠ hmacS (hN ⟨#[112]⟩ ⟨#[115]⟩ 2) ⟨#[115, 117, 109]⟩ := by decide +kernel
theorem beq_ne {a b : ByteArray} (h : a ≠ b) : (a.toList == b.toList) = false := by
  rw [ByteArray.toList_eq, ByteArray.toList_eq]
  refine beq_eq_false_iff_ne.2 (fun e => h ?_)
  cases a with
  | mk x =>
    cases b with
    | mk y => exact congrArg ByteArray.mk (Array.toList_inj.1 e)
theorem hmacS_size (k s : ByteArray) : (hmacS k s).size = 32 := sumS_size _

set_option maxHeartbeats 2000000 in
set_option maxRecDepth 100000 in
theorem speaks26 (w : World) (hT : KTab w) : Calls Tryd.prog 15 #[] w fun e w' => e = .returned (.bool true) ∧ Fr (fun _ => False) w w' := by
  have hd := fun W (hW : KTab W) => derive_is ⟨#[112]⟩ ⟨#[115]⟩ (by decide) (by decide) 1 1 (by decide) (by decide) (by decide) W hW
  rw [show (2 : Nat) ^ 1 = 2 from rfl] at hd
  have hne := keys_differ
  have s1 := hmacS_size (hN ⟨#[112]⟩ ⟨#[115]⟩ 2) ⟨#[99, 105, 112, 104, 101, 114]⟩
  have s2 := hmacS_size (hN ⟨#[112]⟩ ⟨#[115]⟩ 2) ⟨#[115, 117, 109]⟩
  generalize hmacS (hN ⟨#[112]⟩ ⟨#[115]⟩ 2) ⟨#[99, 105, 112, 104, 101, 114]⟩ = K1 at *
  generalize hmacS (hN ⟨#[112]⟩ ⟨#[115]⟩ 2) ⟨#[115, 117, 109]⟩ = K2 at *
  have hbq := beq_ne hne
  have HD := Lib.hid hd
  have HT := Lib.hid hT
  clear hd hT hne
  go_enter Tryd.func15, Tryd.ntmps15
  go_upto_region 2 with (go_at_call 16; refine (HD.out _ HT.out).mono ?_; rintro e w1 ⟨rfl, h⟩; have F1 := Lib.hid h; clear h)
  have hb := heap_alloc_new w1 (.cells #[.string K1, .string K2] 35)
  have hf : Fr (fun _ => False) w (w1.alloc (.cells #[.string K1, .string K2] 35)) := F1.out.alloc _
  have hk : KTab (w1.alloc (.cells #[.string K1, .string K2] 35)) := HT.out.keep hf
  generalize w1.heap.size = g at *
  generalize w1.alloc (.cells #[.string K1, .string K2] 35) = W at *
  have c0 : W.cell? ⟨g, 0, none⟩ = some (.string K1) := (cell_of hb 0).trans rfl
  have c1 : W.cell? ⟨g, 1, none⟩ = some (.string K2) := (cell_of hb 1).trans rfl
  have HB := Lib.hid hb
  have HF := Lib.hid hf
  have HK := Lib.hid hk
  clear F1 hb hf hk
  go_region_held3 (fun w' => w'.cell? ⟨g, 0, none⟩ = some (.string K1) ∧ w'.cell? ⟨g, 1, none⟩ = some (.string K2)) (go_keep) ((go_at_call 16; refine (HD.out W.drew ⟨HK.out.h, HK.out.k⟩).mono ?_; rintro e w2 ⟨rfl, h⟩; have F2 := Lib.hid h; have c0 : w2.cell? ⟨g, 0, none⟩ = some (.string K1) := h.cell_ c0 (fun x => x); have c1 : w2.cell? ⟨g, 1, none⟩ = some (.string K2) := h.cell_ c1 (fun x => x); clear h))
  go_wp2
  go_ret
  exact ⟨rfl, HF.out.drew.trans F2.out (fun _ h => .inl h)⟩
end Go.Proofs.YtmcenocmilhekaaDoor
