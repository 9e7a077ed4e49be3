/- Walks of layer 25 (aes): the boxes of a block's bytes. -/
import Derived.Test.YtmcenocmilhekaaAe5
namespace Go.Proofs.Ytmcenocmilhekaa
set_option linter.unusedVariables false
open Go.RowKit Go.My Go.Aes

/-- A cipher's boxes. -/
def BoxAt (w : World) (c : Nat) : Prop := ∀ x, x < 256 → w.cell? ⟨c, x, none⟩ = some (.int .u8 (box x : Nat))
theorem BoxAt.keep {w w' : World} {c : Nat} {S : Nat → Prop} (h : BoxAt w c) (hf : Fr S w w') (hS : ¬ S c) : BoxAt w' c := fun x hx => hf.cell_ (h x hx) hS
def shufL (b : List Nat) (k : Nat) : List Nat := (List.range 16).map fun i => if i < k then box (b.getD ((i + 4 * (i % 4)) % 16) 0) else 0
theorem shufL_length (b : List Nat) (k : Nat) : (shufL b k).length = 16 := by simp [shufL]
theorem shufL_set (b : List Nat) (k : Nat) (hk : k < 16) : (shufL b k).set k (box (b.getD ((k + 4 * (k % 4)) % 16) 0)) = shufL b (k + 1) := by
  apply List.ext_getElem?
  intro i
  rw [List.getElem?_set]
  simp only [shufL, List.length_map, List.length_range]
  by_cases e : k = i
  · subst e
    simp [hk]
  · rw [if_neg e]
    rcases Nat.lt_or_ge i 16 with h | h
    · simp only [List.getElem?_map, List.getElem?_range h, Option.map_some]
      congr 1
      by_cases h2 : i < k
      · rw [if_pos h2, if_pos (by omega)]
      · rw [if_neg h2, if_neg (by omega)]
    · rw [List.getElem?_eq_none (by simpa using h), List.getElem?_eq_none (by simpa using h)]

set_option maxHeartbeats 2000000 in
set_option maxRecDepth 100000 in
theorem shuffle_is (b : List Nat) (hb : b.length = 16) (hbl : ∀ i, b.getD i 0 < 256) (c : Nat) (w : World) (hC : BoxAt w c) :
    Calls Try.prog 18 #[.pointer (some ⟨c, 0, none⟩), .agg (u8s b)] w fun e w' => e = .returned (.agg (u8s (shufL b 16))) ∧ Fr (fun _ => False) w w' := by
  have Hb := Lib.hid hb
  have Hbl := Lib.hid hbl
  have HC := Lib.hid hC
  have hcl : c < w.heap.size := block_lt_of_cell (a := ⟨c, 0, none⟩) (hC 0 (by decide))
  clear hb hbl hC
  go_enter Try.func18, Try.ntmps18
  go_upto_block 0 with fail
  show Code.wp _ _ _ _ ((w.alloc (.cells (u8s b) 22)).alloc (.cells (u8s (shufL b 0)) 22))
  have hst : ∃ W p3 p4, (w.alloc (.cells (u8s b) 22)).alloc (.cells (u8s (shufL b 0)) 22) = W ∧ w.heap.size = p3 ∧ w.heap.size + 1 = p4 ∧
      Fr (fun _ => False) w W ∧ W.heap[p3]? = some (.cells (u8s b) 22 (0, 0)) ∧ W.heap[p4]? = some (.cells (u8s (shufL b 0)) 22 (0, 0)) := by
    refine ⟨_, _, _, rfl, rfl, rfl, ((Fr.refl _ w).alloc _).alloc _, block_alloc (heap_alloc_new w _), ?_⟩
    have h := heap_alloc_new (w.alloc (.cells (u8s b) 22)) (.cells (u8s (shufL b 0)) 22)
    rwa [show (w.alloc (.cells (u8s b) 22)).heap.size = w.heap.size + 1 by simp] at h
  obtain ⟨W, p3, p4, hW, q3, q4, hF, h3, h4⟩ := hst
  rw [hW, q4, q3]
  have n34 : p3 ≠ p4 := by omega
  have HL : Hid (w.heap.size ≤ p4) := by show w.heap.size ≤ p4; omega
  have F0 := Lib.hid hF
  have B3 := Lib.hid h3
  have B4 := Lib.hid h4
  clear hW q3 q4 hF h3 h4 hcl
  go_wp2
  go_loopw [5, 6] (fun _ v6 wr => ∃ i : Nat, i ≤ 16 ∧ v6 = .int .i64 (i : Int) ∧ Hid (Fr (fun _ => False) w wr) ∧ Hid (wr.heap[p3]? = some (.cells (u8s b) 22 (0, 0))) ∧ Hid (wr.heap[p4]? = some (.cells (u8s (shufL b i)) 22 (0, 0)))) (fun _ v6 _ => 16 - (intOf v6).toNat)
  case atStart => exact ⟨0, by omega, rfl, F0, B3, B4⟩
  case round =>
    obtain ⟨i, hi, rfl, KF, K3, K4⟩ := hrel
    clear F0 B3 B4
    by_cases hlt : i < 16
    · obtain ⟨j, hj⟩ : ∃ j, (i + 4 * (i % 4)) % 16 = j := ⟨_, rfl⟩
      have hset := shufL_set b i hlt
      rw [hj] at hset
      have hjI : ((i : Int) + 4 * ((i : Int) % 4)) % 16 = (j : Int) := by omega
      obtain ⟨x, hx⟩ : ∃ x, b.getD j 0 = x := ⟨_, rfl⟩
      have hxl : x < 256 := by rw [← hx]; exact Hbl.out j
      rw [hx] at hset
      have cb := (HC.out.keep KF.out (fun h => h)) x hxl
      obtain ⟨z, hz⟩ : ∃ z, box x = z := ⟨_, rfl⟩
      rw [hz] at cb hset
      have c3 : wr.cell? ⟨p3, j, none⟩ = some (.int .u8 (x : Int)) := (cell_of K3.out j).trans ((u8s_get _ _ (by rw [Hb.out]; omega)).trans (by rw [hx]))
      have c4 : wr.cell? ⟨p4, i, none⟩ = some (.int .u8 ((shufL b i).getD i 0 : Nat)) := (cell_of K4.out i).trans (u8s_get _ _ (by rw [shufL_length]; exact hlt))
      have f4 := free_of K4.out i
      have hb4 := block_setCell K4.out (.int .u8 (z : Int)) (off := i)
      rw [u8s_set, hset] at hb4
      have hfr := (Fr.refl (fun k => k = p4) wr).setCell ⟨p4, i, none⟩ (.int .u8 (z : Int)) (.inl rfl)
      have MF := Lib.hid (KF.out.trans hfr (fun k hk => .inr (by have := HL.out; omega)))
      have M3 := Lib.hid (hfr.keep K3.out n34)
      have M4 := Lib.hid hb4
      have hlI : (i : Int) < 16 := by omega
      have hi0 : (0 : Int) ≤ (i : Int) := by omega
      have hj0 : (0 : Int) ≤ (j : Int) := by omega
      have hj16 : (j : Int) < 16 := by omega
      have hx0 : (0 : Int) ≤ (x : Int) := by omega
      have hx256 : (x : Int) < 256 := by omega
      clear hset hj hx hz hb4 hfr
      go_upto_region 4 with fail
      go_region
      go_wp2
      go_roundw
      case rel => exact ⟨i + 1, by omega, by go_num, MF.out.drew, M3, M4⟩
      case measure => simp [intOf]; omega
    · obtain rfl : i = 16 := by omega
      obtain ⟨A, hA⟩ : ∃ A, u8s (shufL b 16) = A := ⟨_, rfl⟩
      have hsz : A.size = 16 := by rw [← hA, u8s_size, shufL_length]
      have hall : ∀ v ∈ A.toList, v.oneCell' = true := by rw [← hA]; exact u8s_one _
      have hb2 := K4.out
      rw [hA] at hb2
      have r1 : (loadVar 22 ⟨p4, 0, none⟩).run Try.prog wr = .ok (.agg A) wr :=
        run_loadVar_row _ _ _ _ _ _ _ hb2 Try.underlying22 rfl (by rw [hsz]; kernel_rfl)
      have r2 : (storeVar 22 ⟨p4, 0, none⟩ (.agg A)).run Try.prog wr = .ok () (wr.setRow p4 A) :=
        run_storeVar_row _ _ _ _ _ _ hb2 (by rw [hsz]; kernel_rfl) rfl (by rw [Array.all_eq_true_iff_forall_mem]; intro v hv; exact hall v (by simpa using hv))
      have r3 : (loadVar 22 ⟨p4, 0, none⟩).run Try.prog (wr.setRow p4 A) = .ok (.agg A) (wr.setRow p4 A) :=
        run_loadVar_row _ _ _ _ _ _ _ (block_setRow hb2) Try.underlying22 rfl (by rw [hsz]; kernel_rfl)
      have MF := Lib.hid (fr_setRow KF.out p4 A (.inr HL.out))
      have R1 := Lib.hid r1
      have R2 := Lib.hid r2
      have R3 := Lib.hid r3
      have HA := Lib.hid hA
      clear hA hlt hi hall hsz hb2 r1 r2 r3
      go_wp2_with (first | refine wpList_load_arr rfl 22 _ rfl rfl R1.out ?_ | refine wpList_store_arr rfl 22 _ _ rfl rfl rfl R2.out ?_)
      refine bodyPost_ret (results_cell Try.results18 rfl R3.out) rfl ?_
      exact ⟨by rw [HA.out], MF.out⟩
end Go.Proofs.Ytmcenocmilhekaa
