/- Walks of layer 25 (aes): a block by another one. -/
import Derived.Test.YtmcenocmilhekaaAe1
import Derived.Test.YtmcenocmilhekaaArr
import Derived.BigRegion
import Derived.Deep.CutBlock
import Derived.Deep.DeepCutAuto
namespace Go.Proofs.Ytmcenocmilhekaa
set_option linter.unusedVariables false
open Go.RowKit Go.My Go.Aes

/-- Bytes as cells. -/
def u8s (l : List Nat) : Array Value := (l.map fun x : Nat => Value.int .u8 (x : Int)).toArray
theorem u8s_size (l : List Nat) : (u8s l).size = l.length := by simp [u8s]
theorem u8s_get (l : List Nat) (i : Nat) (h : i < l.length) : (u8s l)[i]? = some (.int .u8 (l.getD i 0 : Nat)) := by simp [u8s, h, List.getD]
theorem u8s_set (l : List Nat) (i x : Nat) : (u8s l).setIfInBounds i (.int .u8 (x : Int)) = u8s (l.set i x) := by simp [u8s, List.map_set]
theorem u8s_one (l : List Nat) : ∀ v ∈ (u8s l).toList, v.oneCell' = true := fun v hv => by
  simp only [u8s, List.mem_map] at hv
  obtain ⟨_, _, rfl⟩ := hv
  rfl
/-- A block by another one, k bytes of it done. -/
def xorL (a b : List Nat) (k : Nat) : List Nat := (List.range 16).map fun i => if i < k then a.getD i 0 ^^^ b.getD i 0 else a.getD i 0
theorem xorL_length (a b : List Nat) (k : Nat) : (xorL a b k).length = 16 := by simp [xorL]
theorem xorL_set (a b : List Nat) (k : Nat) (hk : k < 16) : (xorL a b k).set k (a.getD k 0 ^^^ b.getD k 0) = xorL a b (k + 1) := by
  apply List.ext_getElem?
  intro i
  rw [List.getElem?_set]
  simp only [xorL, List.length_map, List.length_range]
  by_cases e : k = i
  · subst e
    simp [hk]
  · rw [if_neg e]
    rcases Nat.lt_or_ge i 16 with h | h
    · simp only [List.getElem?_map, List.getElem?_range h, Option.map_some]
      congr 1
      by_cases h2 : i < k
      · rw [if_pos h2, if_pos (by omega)]
      · rw [if_neg h2, if_neg (by omega)]
    · rw [List.getElem?_eq_none (by simpa using h), List.getElem?_eq_none (by simpa using h)]
theorem xorL_get (a b : List Nat) (k : Nat) (hk : k < 16) : (xorL a b k).getD k 0 = a.getD k 0 := by simp [xorL, List.getD, hk]

set_option maxHeartbeats 2000000 in
set_option maxRecDepth 100000 in
theorem aturned_is (a b : List Nat) (ha : a.length = 16) (hb : b.length = 16) (hal : ∀ i, a.getD i 0 < 256) (hbl : ∀ i, b.getD i 0 < 256) (w : World) :
    Calls Try.prog 17 #[.agg (u8s a), .agg (u8s b)] w fun e w' => e = .returned (.agg (u8s (xorL a b 16))) ∧ Fr (fun _ => False) w w' := by
  have ha0 : xorL a b 0 = a := by
    apply List.ext_getElem?
    intro i
    rcases Nat.lt_or_ge i 16 with h | h
    · simp [xorL, h, List.getD, show i < a.length by omega]
    · rw [List.getElem?_eq_none (by rw [xorL_length]; exact h), List.getElem?_eq_none (by omega)]
  have Ha0 := Lib.hid ha0
  have Hb := Lib.hid hb
  have Hal := Lib.hid hal
  have Hbl := Lib.hid hbl
  clear hb hal hbl ha ha0
  go_enter Try.func17, Try.ntmps17
  go_upto_block 0 with fail
  show Code.wp _ _ _ _ (((w.alloc (.cells (u8s a) 22)).alloc (.cells (u8s b) 22)).alloc (.cells (u8s (List.replicate 16 0)) 22))
  have hst : ∃ W p2 p3 p4, ((w.alloc (.cells (u8s a) 22)).alloc (.cells (u8s b) 22)).alloc (.cells (u8s (List.replicate 16 0)) 22) = W ∧ w.heap.size = p2 ∧ w.heap.size + 1 = p3 ∧ w.heap.size + 1 + 1 = p4 ∧
      Fr (fun _ => False) w W ∧ W.heap[p2]? = some (.cells (u8s a) 22 (0, 0)) ∧ W.heap[p3]? = some (.cells (u8s b) 22 (0, 0)) ∧ W.heap[p4]? = some (.cells (u8s (List.replicate 16 0)) 22 (0, 0)) := by
    refine ⟨_, _, _, _, rfl, rfl, rfl, rfl, (((Fr.refl _ w).alloc _).alloc _).alloc _, block_alloc (block_alloc (heap_alloc_new w _)), ?_, ?_⟩
    · have h := heap_alloc_new (w.alloc (.cells (u8s a) 22)) (.cells (u8s b) 22)
      rw [show (w.alloc (.cells (u8s a) 22)).heap.size = w.heap.size + 1 by simp] at h
      exact block_alloc h
    · have h := heap_alloc_new ((w.alloc (.cells (u8s a) 22)).alloc (.cells (u8s b) 22)) (.cells (u8s (List.replicate 16 0)) 22)
      rwa [show ((w.alloc (.cells (u8s a) 22)).alloc (.cells (u8s b) 22)).heap.size = w.heap.size + 1 + 1 by simp] at h
  obtain ⟨W, p2, p3, p4, hW, q2, q3, q4, hF, h2, h3, h4⟩ := hst
  rw [hW, q4, q3, q2]
  have n23 : p2 ≠ p3 := by omega
  have n24 : p2 ≠ p4 := by omega
  have n34 : p3 ≠ p4 := by omega
  have HL : Hid (w.heap.size ≤ p2 ∧ w.heap.size ≤ p4) := by refine ⟨?_, ?_⟩ <;> omega
  rw [← Ha0.out] at h2
  have F0 := Lib.hid hF
  have B2 := Lib.hid h2
  have B3 := Lib.hid h3
  have B4 := Lib.hid h4
  clear hW q2 q3 q4 hF h2 h3 h4
  go_wp2
  go_loopw [5, 6] (fun _ v6 wr => ∃ i : Nat, i ≤ 16 ∧ v6 = .int .i64 (i : Int) ∧ Hid (Fr (fun _ => False) w wr) ∧ Hid (wr.heap[p2]? = some (.cells (u8s (xorL a b i)) 22 (0, 0))) ∧ Hid (wr.heap[p3]? = some (.cells (u8s b) 22 (0, 0))) ∧
    Hid (wr.heap[p4]? = some (.cells (u8s (List.replicate 16 0)) 22 (0, 0)))) (fun _ v6 _ => 16 - (intOf v6).toNat)
  case atStart => exact ⟨0, by omega, rfl, F0, B2, B3, B4⟩
  case round =>
    obtain ⟨i, hi, rfl, KF, K2, K3, K4⟩ := hrel
    clear F0 B2 B3 B4
    by_cases hlt : i < 16
    · have c2 : wr.cell? ⟨p2, i, none⟩ = some (.int .u8 (a.getD i 0 : Nat)) := (cell_of K2.out i).trans ((u8s_get _ _ (by rw [xorL_length]; exact hlt)).trans (by rw [xorL_get a b i hlt]))
      have c3 : wr.cell? ⟨p3, i, none⟩ = some (.int .u8 (b.getD i 0 : Nat)) := (cell_of K3.out i).trans (u8s_get _ _ (by rw [Hb.out]; exact hlt))
      have f2 := free_of K2.out i
      have hz := xorB (a.getD i 0) (b.getD i 0) (Hal.out i) (Hbl.out i)
      have hb2 := block_setCell K2.out (.int .u8 ((a.getD i 0 ^^^ b.getD i 0 : Nat) : Int)) (off := i)
      rw [u8s_set, xorL_set a b i hlt] at hb2
      have hfr := (Fr.refl (fun k => k = p2) wr).setCell ⟨p2, i, none⟩ (.int .u8 ((a.getD i 0 ^^^ b.getD i 0 : Nat) : Int)) (.inl rfl)
      have MF := Lib.hid (KF.out.trans hfr (fun k hk => .inr (by have := HL.out; omega)))
      have M2 := Lib.hid hb2
      have M3 := Lib.hid (hfr.keep K3.out (fun e => n23 e.symm))
      have M4 := Lib.hid (hfr.keep K4.out (fun e => n24 e.symm))
      have hlI : (i : Int) < 16 := by omega
      have hi0 : (0 : Int) ≤ (i : Int) := by omega
      have Hz := Lib.hid hz
      clear hz hb2 hfr
      generalize a.getD i 0 ^^^ b.getD i 0 = z at *
      generalize a.getD i 0 = x at *
      generalize b.getD i 0 = y at *
      go_upto_region 4 with fail
      go_region
      rw [Hz.out]
      go_wp2
      go_roundw
      case rel => exact ⟨i + 1, by omega, by go_num, MF.out.drew, M2, M3, M4⟩
      case measure => simp [intOf]; omega
    · obtain rfl : i = 16 := by omega
      obtain ⟨A, hA⟩ : ∃ A, u8s (xorL a b 16) = A := ⟨_, rfl⟩
      have hsz : A.size = 16 := by rw [← hA, u8s_size, xorL_length]
      have hall : ∀ v ∈ A.toList, v.oneCell' = true := by rw [← hA]; exact u8s_one _
      have hb2 := K2.out
      rw [hA] at hb2
      have r1 : (loadVar 22 ⟨p2, 0, none⟩).run Try.prog wr = .ok (.agg A) wr :=
        run_loadVar_row _ _ _ _ _ _ _ hb2 Try.underlying22 rfl (by rw [hsz]; kernel_rfl)
      have r2 : (storeVar 22 ⟨p4, 0, none⟩ (.agg A)).run Try.prog wr = .ok () (wr.setRow p4 A) :=
        run_storeVar_row _ _ _ _ _ _ K4.out (by rw [hsz]; kernel_rfl) (by rw [hsz]; rfl) (by rw [Array.all_eq_true_iff_forall_mem]; intro v hv; exact hall v (by simpa using hv))
      have r3 : (loadVar 22 ⟨p4, 0, none⟩).run Try.prog (wr.setRow p4 A) = .ok (.agg A) (wr.setRow p4 A) :=
        run_loadVar_row _ _ _ _ _ _ _ (block_setRow K4.out) Try.underlying22 rfl (by rw [hsz]; kernel_rfl)
      have MF := Lib.hid (fr_setRow KF.out p4 A (.inr HL.out.2))
      have R1 := Lib.hid r1
      have R2 := Lib.hid r2
      have R3 := Lib.hid r3
      have HA := Lib.hid hA
      clear hA hlt hi hall hsz hb2 r1 r2 r3
      go_wp2_with (first | refine wpList_load_arr rfl 22 _ rfl rfl R1.out ?_ | refine wpList_store_arr rfl 22 _ _ rfl rfl rfl R2.out ?_)
      refine bodyPost_ret (results_cell Try.results17 rfl R3.out) rfl ?_
      exact ⟨by rw [HA.out], MF.out⟩
end Go.Proofs.Ytmcenocmilhekaa
