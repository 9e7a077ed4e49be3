/- Walks of layer 25 (aes): the next counter. -/
import Derived.Test.YtmcenocmilhekaaAe4
namespace Go.Proofs.Ytmcenocmilhekaa
set_option linter.unusedVariables false
open Go.RowKit Go.My Go.Aes

/-- The next counter: places below k are still to be looked at. -/
def nextL (a : List Nat) : Nat → List Nat
  | 0 => a
  | k + 1 => if (a.getD k 0 + 1) % 256 = 0 then nextL (a.set k 0) k else a.set k ((a.getD k 0 + 1) % 256)
theorem nextL_length (k : Nat) : ∀ a : List Nat, (nextL a k).length = a.length := by
  induction k with
  | zero => intro a; rfl
  | succ k ih =>
    intro a
    simp only [nextL]
    split
    · rw [ih]; simp
    · simp

set_option maxHeartbeats 2000000 in
set_option maxRecDepth 100000 in
theorem next_is (a : List Nat) (ha : a.length = 16) (hal : ∀ i, a.getD i 0 < 256) (w : World) :
    Calls Try.prog 20 #[.agg (u8s a)] w fun e w' => e = .returned (.agg (u8s (nextL a 16))) ∧ Fr (fun _ => False) w w' := by
  obtain ⟨N, hN⟩ : ∃ N, nextL a 16 = N := ⟨_, rfl⟩
  have hNl : N.length = 16 := by rw [← hN, nextL_length, ha]
  rw [hN]
  have HN := Lib.hid hN
  have HNl := Lib.hid hNl
  have Ha := Lib.hid ha
  have Hal := Lib.hid hal
  clear hN hNl ha hal
  go_enter Try.func20, Try.ntmps20
  go_upto_block 0 with fail
  show Code.wp _ _ _ _ ((w.alloc (.cells (u8s a) 22)).alloc (.cells (u8s (List.replicate 16 0)) 22))
  have hst : ∃ W p1 p2, (w.alloc (.cells (u8s a) 22)).alloc (.cells (u8s (List.replicate 16 0)) 22) = W ∧ w.heap.size = p1 ∧ w.heap.size + 1 = p2 ∧
      Fr (fun _ => False) w W ∧ W.heap[p1]? = some (.cells (u8s a) 22 (0, 0)) ∧ W.heap[p2]? = some (.cells (u8s (List.replicate 16 0)) 22 (0, 0)) := by
    refine ⟨_, _, _, rfl, rfl, rfl, ((Fr.refl _ w).alloc _).alloc _, block_alloc (heap_alloc_new w _), ?_⟩
    have h := heap_alloc_new (w.alloc (.cells (u8s a) 22)) (.cells (u8s (List.replicate 16 0)) 22)
    rwa [show (w.alloc (.cells (u8s a) 22)).heap.size = w.heap.size + 1 by simp] at h
  obtain ⟨W, p1, p2, hW, q1, q2, hF, h1, h2⟩ := hst
  rw [hW, q2, q1]
  have n12 : p1 ≠ p2 := by omega
  have HL : Hid (w.heap.size ≤ p1 ∧ w.heap.size ≤ p2) := by refine ⟨?_, ?_⟩ <;> omega
  have F0 := Lib.hid hF
  have B1 := Lib.hid h1
  have B2 := Lib.hid h2
  clear hW q1 q2 hF h1 h2
  go_cut [3] (fun _ wx => Hid (Fr (fun _ => False) w wx) ∧ Hid (wx.heap[p1]? = some (.cells (u8s N) 22 (0, 0))) ∧ Hid (wx.heap[p2]? = some (.cells (u8s (List.replicate 16 0)) 22 (0, 0))))
  case first =>
    go_wp2
    go_loopw [3] (fun v3 wr => ∃ (k : Nat) (l : List Nat), k ≤ 16 ∧ v3 = .int .i64 ((k : Int) - 1) ∧ Hid (nextL l k = N ∧ l.length = 16 ∧ ∀ i, l.getD i 0 < 256) ∧ Hid (Fr (fun _ => False) w wr) ∧ Hid (wr.heap[p1]? = some (.cells (u8s l) 22 (0, 0))) ∧
      Hid (wr.heap[p2]? = some (.cells (u8s (List.replicate 16 0)) 22 (0, 0)))) (fun v3 _ => (intOf v3 + 1).toNat)
    case atStart => exact ⟨16, a, by omega, rfl, ⟨HN.out, Ha.out, Hal.out⟩, F0, B1, B2⟩
    case round =>
      obtain ⟨k, l, hk, rfl, hl, KF, K1, K2⟩ := hrel
      clear F0 B1 B2
      by_cases hk0 : k = 0
      · subst hk0
        have hlN : l = N := hl.out.1
        subst hlN
        go_wp2
        go_meet
        exact ⟨KF, K1, K2⟩
      · obtain ⟨j, rfl⟩ : ∃ j, k = j + 1 := ⟨k - 1, by omega⟩
        have ek : ((j + 1 : Nat) : Int) - 1 = (j : Int) := by omega
        rw [ek]
        obtain ⟨h1, h2, h3⟩ := hl.out
        obtain ⟨x, hx⟩ : ∃ x, l.getD j 0 = x := ⟨_, rfl⟩
        have hxl : x < 256 := by rw [← hx]; exact h3 j
        have c1 : wr.cell? ⟨p1, j, none⟩ = some (.int .u8 (x : Int)) := (cell_of K1.out j).trans ((u8s_get _ _ (by omega)).trans (by rw [hx]))
        have f1 := free_of K1.out j
        have hj0 : (0 : Int) ≤ (j : Int) := by omega
        have hj16 : (j : Int) < 16 := by omega
        have hst1 : nextL l (j + 1) = if (x + 1) % 256 = 0 then nextL (l.set j 0) j else l.set j ((x + 1) % 256) := by rw [← hx]; rfl
        obtain ⟨y, hy⟩ : ∃ y, (x + 1) % 256 = y := ⟨_, rfl⟩
        have hyI : ((x : Int) + 1) % 256 = (y : Int) := by omega
        rw [hy] at hst1
        have hb := block_setCell K1.out (.int .u8 (y : Int)) (off := j)
        rw [u8s_set] at hb
        have hfr := (Fr.refl (fun k => k = p1) wr).setCell ⟨p1, j, none⟩ (.int .u8 (y : Int)) (.inl rfl)
        have MF := Lib.hid (KF.out.trans hfr (fun k hk => .inr (by have := HL.out; omega)))
        have M1 := Lib.hid hb
        have M2 := Lib.hid (hfr.keep K2.out (fun e => n12 e.symm))
        have cy : (wr.setCell ⟨p1, j, none⟩ (.int .u8 (y : Int))).cell? ⟨p1, j, none⟩ = some (.int .u8 (y : Int)) := (cell_of hb j).trans (by
          rw [u8s_get _ _ (by simp; omega)]
          simp [List.getD, show j < l.length by omega])
        have h2n : (l.set j y).length = 16 := by simp [h2]
        have hyl : y < 256 := by omega
        have h3n : ∀ i, (l.set j y).getD i 0 < 256 := fun i => by
          by_cases e : j = i
          · subst e
            simp [List.getD, show j < l.length by omega]
            exact hyl
          · have := h3 i
            simpa [List.getD, List.getElem?_set_ne e] using this
        have H123 := Lib.hid (And.intro h2n h3n)
        by_cases hy0 : y = 0
        · subst hy0
          rw [if_pos rfl] at hst1
          have Hst := Lib.hid (hst1.symm.trans h1)
          clear hl h1 h2 h3 hx hxl hy hb hfr h2n h3n hst1 ek hk0 hyl
          go_wp2
          go_roundw
          case rel => exact ⟨j, _, by omega, by go_num, ⟨Hst.out, H123.out.1, H123.out.2⟩, MF, M1, M2⟩
          case measure => simp [intOf]
        · rw [if_neg hy0] at hst1
          have hlN : l.set j y = N := hst1.symm.trans h1
          have hyI2 : ((y : Int) == 0) = false := by
            simp
            exact hy0
          rw [hlN] at M1
          clear hl h1 h2 h3 hx hxl hy hb hfr h2n h3n hst1 ek hk0 hyl H123 hlN
          go_wp2
          go_meet
          exact ⟨MF, M1, M2⟩
  case rest =>
    obtain ⟨KF, K1, K2⟩ := hcut
    clear F0 B1 B2
    obtain ⟨A, hA⟩ : ∃ A, u8s N = A := ⟨_, rfl⟩
    have hsz : A.size = 16 := by rw [← hA, u8s_size, HNl.out]
    have hall : ∀ v ∈ A.toList, v.oneCell' = true := by rw [← hA]; exact u8s_one _
    have hb2 := K1.out
    rw [hA] at hb2
    have r1 : (loadVar 22 ⟨p1, 0, none⟩).run Try.prog wc = .ok (.agg A) wc :=
      run_loadVar_row _ _ _ _ _ _ _ hb2 Try.underlying22 rfl (by rw [hsz]; kernel_rfl)
    have r2 : (storeVar 22 ⟨p2, 0, none⟩ (.agg A)).run Try.prog wc = .ok () (wc.setRow p2 A) :=
      run_storeVar_row _ _ _ _ _ _ K2.out (by rw [hsz]; kernel_rfl) (by rw [hsz]; rfl) (by rw [Array.all_eq_true_iff_forall_mem]; intro v hv; exact hall v (by simpa using hv))
    have r3 : (loadVar 22 ⟨p2, 0, none⟩).run Try.prog (wc.setRow p2 A) = .ok (.agg A) (wc.setRow p2 A) :=
      run_loadVar_row _ _ _ _ _ _ _ (block_setRow K2.out) Try.underlying22 rfl (by rw [hsz]; kernel_rfl)
    have MF := Lib.hid (fr_setRow KF.out p2 A (.inr HL.out.2))
    have R1 := Lib.hid r1
    have R2 := Lib.hid r2
    have R3 := Lib.hid r3
    have HA := Lib.hid hA
    clear hA hall hsz hb2 r1 r2 r3
    go_wp2_with (first | refine wpList_load_arr rfl 22 _ rfl rfl R1.out ?_ | refine wpList_store_arr rfl 22 _ _ rfl rfl rfl R2.out ?_)
    refine bodyPost_ret (results_cell Try.results20 rfl R3.out) rfl ?_
    exact ⟨by rw [HA.out], MF.out⟩
end Go.Proofs.Ytmcenocmilhekaa
