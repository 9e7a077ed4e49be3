/- Layer 27 (index): what the laws speak of. -/
import Derived.Test.YtlkiijojldnlbaaIx5
namespace Go.Proofs.Ytlkiijojldnlbaa
set_option linter.unusedVariables false
open Go.RowKit Go.My Go.Ix

theorem lit_enc : lb 1 4 ++ (lb (⟨#[97]⟩ : ByteArray).size 2 ++ (⟨#[97]⟩ : ByteArray).data.toList ++ lb (⟨#[120, 121, 122]⟩ : ByteArray).size 4) = [1, 0, 0, 0, 1, 0, 97, 3, 0, 0, 0] := by decide
theorem lit_dec : decR [1, 0, 0, 0, 1, 0, 97, 3, 0, 0, 0] = some [([97], 3)] := by decide +kernel
theorem itemsV_get : ∀ (L : List (List UInt8 × Nat)) (k : Nat) (h : k < L.length), (itemsV L)[k * 2]? = some (.string ⟨(L[k]).1.toArray⟩) ∧ (itemsV L)[k * 2 + 1]? = some (.int .i64 ((L[k]).2 : Int))
  | [], k, h => by simp at h
  | x :: L, 0, h => by simp [itemsV]
  | x :: L, k + 1, h => by
    have ih := itemsV_get L k (by simpa using h)
    have e1 : (k + 1) * 2 = k * 2 + 2 := by omega
    rw [e1]
    simp only [itemsV, List.flatMap_cons] at ih ⊢
    exact ⟨by simpa using ih.1, by simpa using ih.2⟩
theorem item_cell {w : World} {B T g n cap : Nat} {L : List (List UInt8 × Nat)} (h : w.ownsRow B T 2 (.slice (some ⟨g, 0, none⟩) n cap) L.length (itemsV L)) (k : Nat) (hk : k < L.length) :
    w.cell? ⟨g, k * 2, none⟩ = some (.string ⟨(L[k]).1.toArray⟩) ∧ w.cell? ⟨g, k * 2 + 1, none⟩ = some (.int .i64 ((L[k]).2 : Int)) := by
  have hg := itemsV_get L k hk
  have h1 := World.ownsRow.cells h (g := g) rfl (k * 2) _ hg.1
  have h2 := World.ownsRow.cells h (g := g) rfl (k * 2 + 1) _ hg.2
  have pl : ∀ j, (⟨g, 0, none⟩ : Addr).add j = ⟨g, j, none⟩ := fun j => by unfold Addr.add; split <;> simp_all
  rw [pl] at h1 h2
  exact ⟨h1, h2⟩

set_option maxHeartbeats 4000000 in
set_option maxRecDepth 100000 in
theorem speaks27 (w : World) : Calls Try.prog 16 #[] w fun e w' => e = .returned (.bool true) ∧ Fr (fun _ => False) w w' := by
  have hb := heap_alloc_new w (.cells #[.string ⟨#[97]⟩, .string ⟨#[120, 121, 122]⟩] 54)
  have he := encode_one w.heap.size ⟨#[97]⟩ ⟨#[120, 121, 122]⟩ (by decide) (by decide) (w.alloc (.cells #[.string ⟨#[97]⟩, .string ⟨#[120, 121, 122]⟩] 54)) ((cell_of hb 0).trans rfl) ((cell_of hb 1).trans rfl)
  rw [lit_enc] at he
  have HE := Lib.hid he
  clear he hb
  go_enter Try.func16, Try.ntmps16
  go_upto_region 2 with (go_at_call 19; refine HE.out.mono ?_; rintro e w2 ⟨rfl, h⟩; have F2 : Hid (Fr (fun _ => False) w w2) := Lib.hid (((Fr.refl _ w).alloc _).trans h (fun _ h => .inl h)); clear h)
  have hd := fun U => decode_is [1, 0, 0, 0, 1, 0, 97, 3, 0, 0, 0] (by decide) U
  rw [lit_dec] at hd
  have HD := Lib.hid hd
  clear hd HE
  go_upto_region 3 with (go_at_call 17; refine (HD.out w2).mono ?_; rintro e w3 ⟨⟨v, hv, rfl⟩, hf⟩; obtain ⟨gv, cap, hvv⟩ := own_slice hv (by decide); subst hvv; have hcc := item_cell hv 0 (by decide); have F3 := Lib.hid (F2.out.trans hf (fun _ h => .inl h)); clear hv hf)
  have d0 : w3.cell? ⟨gv, 0, none⟩ = some (.string ⟨#[97]⟩) := hcc.1
  have d1 : w3.cell? ⟨gv, 1, none⟩ = some (.int .i64 3) := hcc.2
  clear hcc HD
  go_wp2
  go_ret
  exact ⟨rfl, F3.out⟩
end Go.Proofs.Ytlkiijojldnlbaa
