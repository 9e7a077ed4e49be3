/- Walks of layer 25 (aes): each four bytes mixed. -/
import Derived.Test.YtmcenocmilhekaaAe8
namespace Go.Proofs.Ytmcenocmilhekaa
set_option linter.unusedVariables false
open Go.RowKit Go.My Go.Aes

set_option maxHeartbeats 4000000 in
set_option maxRecDepth 100000 in
theorem mix_is (b : List Nat) (hb : b.length = 16) (hbl : ∀ i, b.getD i 0 < 256) (w : World) :
    Calls Try.prog 19 #[.agg (u8s b)] w fun e w' => e = .returned (.agg (u8s (mixL b 16))) ∧ Fr (fun _ => False) w w' := by
  have Hb := Lib.hid hb
  have Hbl := Lib.hid hbl
  clear hb hbl
  go_enter Try.func19, Try.ntmps19
  go_upto_block 0 with fail
  show Code.wp _ _ _ _ ((w.alloc (.cells (u8s b) 22)).alloc (.cells (u8s (mixL b 0)) 22))
  have hst : ∃ W p3 p4, (w.alloc (.cells (u8s b) 22)).alloc (.cells (u8s (mixL b 0)) 22) = W ∧ w.heap.size = p3 ∧ w.heap.size + 1 = p4 ∧
      Fr (fun _ => False) w W ∧ W.heap[p3]? = some (.cells (u8s b) 22 (0, 0)) ∧ W.heap[p4]? = some (.cells (u8s (mixL b 0)) 22 (0, 0)) := by
    refine ⟨_, _, _, rfl, rfl, rfl, ((Fr.refl _ w).alloc _).alloc _, block_alloc (heap_alloc_new w _), ?_⟩
    have h := heap_alloc_new (w.alloc (.cells (u8s b) 22)) (.cells (u8s (mixL b 0)) 22)
    rwa [show (w.alloc (.cells (u8s b) 22)).heap.size = w.heap.size + 1 by simp] at h
  obtain ⟨W, p3, p4, hW, q3, q4, hF, h3, h4⟩ := hst
  rw [hW, q4, q3]
  have n34 : p3 ≠ p4 := by omega
  have HL : Hid (w.heap.size ≤ p4) := by show w.heap.size ≤ p4; omega
  have F0 := Lib.hid hF
  have B3 := Lib.hid h3
  have B4 := Lib.hid h4
  clear hW q3 q4 hF h3 h4
  go_wp2
  go_loopw [3, 4, 5, 6] (fun _ _ _ v6 wr => ∃ i : Nat, i ≤ 16 ∧ v6 = .int .i64 (i : Int) ∧ Hid (Fr (fun _ => False) w wr) ∧ Hid (wr.heap[p3]? = some (.cells (u8s b) 22 (0, 0))) ∧ Hid (wr.heap[p4]? = some (.cells (u8s (mixL b i)) 22 (0, 0)))) (fun _ _ _ v6 _ => 16 - (intOf v6).toNat)
  case atStart => exact ⟨0, by omega, rfl, F0, B3, B4⟩
  case round =>
    obtain ⟨i, hi, rfl, KF, K3, K4⟩ := hrel
    clear F0 B3 B4
    by_cases hlt : i < 16
    · have hlI : (i : Int) < 16 := by omega
      have hi0 : (0 : Int) ≤ (i : Int) := by omega
      obtain ⟨o, ho⟩ : ∃ o, i / 4 * 4 = o := ⟨_, rfl⟩
      have hoI : (i : Int) / 4 * 4 = (o : Int) := by omega
      have ho0 : (0 : Int) ≤ (o : Int) := by omega
      have ho16 : (o : Int) ≤ 16 := by omega
      have ho12 : o ≤ 12 := by omega
      have Ho := Lib.hid ho
      clear ho
      obtain ⟨j0, hj0⟩ : ∃ j, (i + 0) % 4 = j := ⟨_, rfl⟩
      obtain ⟨j1, hj1⟩ : ∃ j, (i + 1) % 4 = j := ⟨_, rfl⟩
      obtain ⟨j2, hj2⟩ : ∃ j, (i + 2) % 4 = j := ⟨_, rfl⟩
      obtain ⟨j3, hj3⟩ : ∃ j, (i + 3) % 4 = j := ⟨_, rfl⟩
      obtain ⟨x0, hx0⟩ : ∃ x, b.getD (o + j0) 0 = x := ⟨_, rfl⟩
      obtain ⟨x1, hx1⟩ : ∃ x, b.getD (o + j1) 0 = x := ⟨_, rfl⟩
      obtain ⟨x2, hx2⟩ : ∃ x, b.getD (o + j2) 0 = x := ⟨_, rfl⟩
      obtain ⟨x3, hx3⟩ : ∃ x, b.getD (o + j3) 0 = x := ⟨_, rfl⟩
      have l0 : x0 < 256 := by rw [← hx0]; exact Hbl.out _
      have l1 : x1 < 256 := by rw [← hx1]; exact Hbl.out _
      have l2 : x2 < 256 := by rw [← hx2]; exact Hbl.out _
      have l3 : x3 < 256 := by rw [← hx3]; exact Hbl.out _
      have hmx : mixB b i = mul x0 2 ^^^ mul x1 3 ^^^ x2 ^^^ x3 := by unfold mixB; rw [Ho.out, hj0, hj1, hj2, hj3, hx0, hx1, hx2, hx3]
      have hset := mixL_set b i hlt
      rw [hmx] at hset
      have hm0 : ∀ W, Calls Try.prog 26 #[.int .u8 (x0 : Int), .int .u8 2] W fun e w' => e = .returned (.int .u8 (mul x0 2 : Nat)) ∧ W = w' := fun W => product_is x0 2 l0 (by decide) W
      have hm1 : ∀ W, Calls Try.prog 26 #[.int .u8 (x1 : Int), .int .u8 3] W fun e w' => e = .returned (.int .u8 (mul x1 3 : Nat)) ∧ W = w' := fun W => product_is x1 3 l1 (by decide) W
      have lm0 := mul_lt x0 2 l0
      have lm1 := mul_lt x1 3 l1
      obtain ⟨m0, e0⟩ : ∃ m, mul x0 2 = m := ⟨_, rfl⟩
      obtain ⟨m1, e1⟩ : ∃ m, mul x1 3 = m := ⟨_, rfl⟩
      rw [e0] at hset hm0 lm0
      rw [e1] at hset hm1 lm1
      have z1 := xorB m0 m1 lm0 lm1
      have lz1 : m0 ^^^ m1 < 256 := Nat.xor_lt_two_pow (n := 8) lm0 lm1
      have z2 := xorB (m0 ^^^ m1) x2 lz1 l2
      have lz2 : m0 ^^^ m1 ^^^ x2 < 256 := Nat.xor_lt_two_pow (n := 8) lz1 l2
      have z3 := xorB (m0 ^^^ m1 ^^^ x2) x3 lz2 l3
      have hz : Go.bits .xor .u8 (Go.bits .xor .u8 (Go.bits .xor .u8 (m0 : Int) (m1 : Int)) (x2 : Int)) (x3 : Int) = ((m0 ^^^ m1 ^^^ x2 ^^^ x3 : Nat) : Int) := by rw [z1, z2, z3]
      obtain ⟨z, ez⟩ : ∃ z, m0 ^^^ m1 ^^^ x2 ^^^ x3 = z := ⟨_, rfl⟩
      rw [ez] at hset hz
      have lj : j0 < 4 ∧ j1 < 4 ∧ j2 < 4 ∧ j3 < 4 := by refine ⟨?_, ?_, ?_, ?_⟩ <;> omega
      have HM0 := Lib.hid hm0
      have HM1 := Lib.hid hm1
      have HZ := Lib.hid hz
      have Hset := Lib.hid hset
      clear hm0 hm1 hz hset z1 z2 z3 lz1 lz2 lm0 lm1 e0 e1 ez hmx
      go_upto_region 6 with fail
      have hb1 := heap_alloc_new wr (.cells #[.int .i64 (i : Int)] 3)
      have hb2 := heap_alloc_new (wr.alloc (.cells #[.int .i64 (i : Int)] 3)) (.cells #[.slice (some ⟨p3, o, none⟩) (16 - o) (16 - o)] 36)
      rw [show (wr.alloc (.cells #[.int .i64 (i : Int)] 3)).heap.size = wr.heap.size + 1 by simp] at hb2
      have hb1' := block_alloc (x := .cells #[.slice (some ⟨p3, o, none⟩) (16 - o) (16 - o)] 36) hb1
      have hfa : Fr (fun _ => False) wr ((wr.alloc (.cells #[.int .i64 (i : Int)] 3)).alloc (.cells #[.slice (some ⟨p3, o, none⟩) (16 - o) (16 - o)] 36)) := ((Fr.refl _ wr).alloc _).alloc _
      have npi : wr.heap.size ≠ p4 := by have := lt_of_block K4.out; omega
      generalize wr.heap.size + 1 = pf at *
      generalize wr.heap.size = pi at *
      generalize (wr.alloc (.cells #[.int .i64 (i : Int)] 3)).alloc (.cells #[.slice (some ⟨p3, o, none⟩) (16 - o) (16 - o)] 36) = V at *
      have k3 := hfa.keep K3.out (fun x => x)
      have k4 := hfa.keep K4.out (fun x => x)
      have hVF := KF.out.trans hfa (fun _ h => .inl h)
      have ci : V.cell? ⟨pi, 0, none⟩ = some (.int .i64 (i : Int)) := (cell_of hb1' 0).trans rfl
      have cf : V.cell? ⟨pf, 0, none⟩ = some (.slice (some ⟨p3, o, none⟩) (16 - o) (16 - o)) := (cell_of hb2 0).trans rfl
      have cx : ∀ j, j < 4 → V.cell? ⟨p3, o + j, none⟩ = some (.int .u8 (b.getD (o + j) 0 : Nat)) := fun j hj => (cell_of k3 _).trans (u8s_get _ _ (by rw [Hb.out]; omega))
      have c4 : V.cell? ⟨p4, i, none⟩ = some (.int .u8 ((mixL b i).getD i 0 : Nat)) := (cell_of k4 i).trans (u8s_get _ _ (by rw [mixL_length]; exact hlt))
      have f4 := free_of k4 i
      have a0 : Calls Try.prog 25 #[.int .i64 0, .pointer (some ⟨pf, 0, none⟩), .pointer (some ⟨pi, 0, none⟩)] V.drew fun e w' => e = .returned (.int .u8 (x0 : Int)) ∧ w' = V.drew :=
        mixAt_is V.drew pf pi p3 o (16 - o) (16 - o) i 0 j0 x0 hlt (by decide) (by omega) hj0 cf ci ((cx j0 lj.1).trans (by rw [hx0]))
      have a1 : Calls Try.prog 25 #[.int .i64 1, .pointer (some ⟨pf, 0, none⟩), .pointer (some ⟨pi, 0, none⟩)] V.drew fun e w' => e = .returned (.int .u8 (x1 : Int)) ∧ w' = V.drew :=
        mixAt_is V.drew pf pi p3 o (16 - o) (16 - o) i 1 j1 x1 hlt (by decide) (by omega) hj1 cf ci ((cx j1 lj.2.1).trans (by rw [hx1]))
      have a2 : Calls Try.prog 25 #[.int .i64 2, .pointer (some ⟨pf, 0, none⟩), .pointer (some ⟨pi, 0, none⟩)] V.drew fun e w' => e = .returned (.int .u8 (x2 : Int)) ∧ w' = V.drew :=
        mixAt_is V.drew pf pi p3 o (16 - o) (16 - o) i 2 j2 x2 hlt (by decide) (by omega) hj2 cf ci ((cx j2 lj.2.2.1).trans (by rw [hx2]))
      have a3 : Calls Try.prog 25 #[.int .i64 3, .pointer (some ⟨pf, 0, none⟩), .pointer (some ⟨pi, 0, none⟩)] V.drew fun e w' => e = .returned (.int .u8 (x3 : Int)) ∧ w' = V.drew :=
        mixAt_is V.drew pf pi p3 o (16 - o) (16 - o) i 3 j3 x3 hlt (by decide) (by omega) hj3 cf ci ((cx j3 lj.2.2.2).trans (by rw [hx3]))
      have hb4 := block_setCell k4 (.int .u8 (z : Int)) (off := i)
      rw [u8s_set, Hset.out] at hb4
      have hfr := (Fr.refl (fun k => k = p4) V).setCell ⟨p4, i, none⟩ (.int .u8 (z : Int)) (.inl rfl)
      have MF := Lib.hid (hVF.trans hfr (fun k hk => .inr (by have := HL.out; omega)))
      have M3 := Lib.hid (hfr.keep k3 n34)
      have M4 := Lib.hid hb4
      have A0 := Lib.hid a0
      have A1 := Lib.hid a1
      have A2 := Lib.hid a2
      have A3 := Lib.hid a3
      clear a0 a1 a2 a3 hb1 hb2 hb1' hfa hb4 hfr hVF cx lj hj0 hj1 hj2 hj3 hx0 hx1 hx2 hx3 l0 l1 l2 l3 Hset k3 k4 cf K3 K4 KF
      go_region_held3 (fun w' => w'.cell? ⟨pi, 0, none⟩ = some (.int .i64 (i : Int))) (first | exact Fr.cell_ ((Fr.refl (fun k => k = p4) V).setCell ⟨p4, i, none⟩ _ (.inl rfl)) ci npi | go_keep) (first
        | ((go_at_call 25; first
          | ((with_reducible show Calls _ _ #[Value.int .i64 0, _, _] _ _); refine A0.out.mono ?_; rintro e w' ⟨rfl, rfl⟩)
          | ((with_reducible show Calls _ _ #[Value.int .i64 1, _, _] _ _); refine A1.out.mono ?_; rintro e w' ⟨rfl, rfl⟩)
          | ((with_reducible show Calls _ _ #[Value.int .i64 2, _, _] _ _); refine A2.out.mono ?_; rintro e w' ⟨rfl, rfl⟩)
          | ((with_reducible show Calls _ _ #[Value.int .i64 3, _, _] _ _); refine A3.out.mono ?_; rintro e w' ⟨rfl, rfl⟩)))
        | ((go_at_call 26; first
          | ((with_reducible show Calls _ _ #[_, Value.int .u8 2] _ _); refine (HM0.out _).mono ?_; rintro e w' ⟨rfl, rfl⟩)
          | ((with_reducible show Calls _ _ #[_, Value.int .u8 3] _ _); refine (HM1.out _).mono ?_; rintro e w' ⟨rfl, rfl⟩))))
      all_goals
        rw [HZ.out]
        go_wp2
        go_roundw
        case rel => exact ⟨i + 1, by omega, by go_num, MF.out.drew, M3, M4⟩
        case measure => simp [intOf]; omega
    · obtain rfl : i = 16 := by omega
      obtain ⟨A, hA⟩ : ∃ A, u8s (mixL b 16) = A := ⟨_, rfl⟩
      have hsz : A.size = 16 := by rw [← hA, u8s_size, mixL_length]
      have hall : ∀ v ∈ A.toList, v.oneCell' = true := by rw [← hA]; exact u8s_one _
      have hb2 := K4.out
      rw [hA] at hb2
      have r1 : (loadVar 22 ⟨p4, 0, none⟩).run Try.prog wr = .ok (.agg A) wr :=
        run_loadVar_row _ _ _ _ _ _ _ hb2 Try.underlying22 rfl (by rw [hsz]; kernel_rfl)
      have r2 : (storeVar 22 ⟨p4, 0, none⟩ (.agg A)).run Try.prog wr = .ok () (wr.setRow p4 A) :=
        run_storeVar_row _ _ _ _ _ _ hb2 (by rw [hsz]; kernel_rfl) rfl (by rw [Array.all_eq_true_iff_forall_mem]; intro v hv; exact hall v (by simpa using hv))
      have r3 : (loadVar 22 ⟨p4, 0, none⟩).run Try.prog (wr.setRow p4 A) = .ok (.agg A) (wr.setRow p4 A) :=
        run_loadVar_row _ _ _ _ _ _ _ (block_setRow hb2) Try.underlying22 rfl (by rw [hsz]; kernel_rfl)
      have MF := Lib.hid (fr_setRow KF.out p4 A (.inr HL.out))
      have R1 := Lib.hid r1
      have R2 := Lib.hid r2
      have R3 := Lib.hid r3
      have HA := Lib.hid hA
      clear hA hlt hi hall hsz hb2 r1 r2 r3
      go_wp2_with (first | refine wpList_load_arr rfl 22 _ rfl rfl R1.out ?_ | refine wpList_store_arr rfl 22 _ _ rfl rfl rfl R2.out ?_)
      refine bodyPost_ret (results_cell Try.results19 rfl R3.out) rfl ?_
      exact ⟨by rw [HA.out], MF.out⟩
end Go.Proofs.Ytmcenocmilhekaa
