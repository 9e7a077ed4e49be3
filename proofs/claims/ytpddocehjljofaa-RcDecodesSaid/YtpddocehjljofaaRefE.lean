/- Walks of the reference of layer 3 (rc): the decoder's parts of a whole, and its beginning. -/
import Derived.Test.YtpddocehjljofaaRefD
import Derived.BigQuiet
namespace Go.Proofs.Ytpddocehjljofaa
open Go.RowKit Go.My

set_option maxHeartbeats 2000000 in
set_option maxRecDepth 100000 in
theorem refd_where (d : Rc.D) (total : Nat) (w : World) (hg : DecG d) (ht : 1 ≤ total) (ht2 : total ≤ 16777216) :
    Calls Try.prog 33 #[dV d, .int .u64 (total : Int)] w fun r w' => r = .returned (.int .u64 ((d.where_ total).1 : Int)) ∧ Fr (fun _ => False) w w' := by
  obtain ⟨q, hq⟩ : ∃ q, d.size / total = q := ⟨_, rfl⟩
  have hqi : (d.size : Int) / (total : Int) = (q : Int) := by rw [← hq]; simp
  have hq1 : 1 ≤ q := by rw [← hq]; exact (Nat.le_div_iff_mul_le ht).2 (by have := hg.lo; omega)
  have hqq : (1 : Int) ≤ (q : Int) := by omega
  have hq32 : (q : Int) < 4294967296 := by have := hg.hi; have := Nat.div_le_self d.size total; omega
  obtain ⟨c, hc⟩ : ∃ c, d.code / q = c := ⟨_, rfl⟩
  have hci : (d.code : Int) / (q : Int) = (c : Int) := by rw [← hc]; simp
  have hc32 : (c : Int) < 4294967296 := by have := hg.code; have := Nat.div_le_self d.code q; omega
  have htt : (1 : Int) ≤ (total : Int) := by omega
  have htt2 : (total : Int) ≤ 16777216 := by omega
  have hsz0 : (0 : Int) ≤ (d.size : Int) := by omega
  have hwh : (d.where_ total).1 = min c (total - 1) := by unfold Rc.D.where_; rw [hq, hc]
  have Hwh := Lib.hid hwh
  have hwm : IntKind.u64.wrap ((total : Int) - 1) = (total : Int) - 1 := IntWalk.u64_in _ (by omega)
  have w1 : IntKind.u64.wrap (q : Int) = (q : Int) := IntWalk.u64_in _ (by omega)
  have w2 : IntKind.u64.wrap (c : Int) = (c : Int) := IntWalk.u64_in _ (by omega)
  clear hg ht ht2 hq hq1 hwh hc
  unfold dV dC
  by_cases hlt : (total : Int) - 1 < (c : Int)
  · have ht1 : decide ((total : Int) - 1 < (c : Int)) = true := by simpa using hlt
    go_enter Try.func33, Try.ntmps33
    go_wp2
    go_quiet (fail)
    go_wp2
    go_ret
    refine ⟨?_, ((Fr.refl _ _).alloc _).drewN _⟩
    rw [Hwh.out, show ((min c (total - 1) : Nat) : Int) = (total : Int) - 1 by omega]
    rfl
  · have ht1 : decide ((total : Int) - 1 < (c : Int)) = false := by simpa using hlt
    go_enter Try.func33, Try.ntmps33
    go_wp2
    go_quiet (fail)
    go_wp2
    go_ret
    refine ⟨?_, ((Fr.refl _ _).alloc _).drewN _⟩
    rw [Hwh.out, show ((min c (total - 1) : Nat) : Int) = (c : Int) by omega]
    rfl
set_option maxHeartbeats 2000000 in
set_option maxRecDepth 100000 in
theorem refd_take (d : Rc.D) (start size total : Nat) (w : World) (hg : DecG d) (hpt : d.size / total = d.part) (ht : 1 ≤ total) (ht2 : total ≤ 16777216) (h1 : 1 ≤ d.part * size) (h2 : d.part * size < 4294967296) (hs : start < 4294967296) (hz : size < 4294967296) :
    Calls Try.prog 34 #[dV d, .int .u64 (start : Int), .int .u64 (size : Int), .int .u64 (total : Int)] w fun r w' => r = .returned (dV (d.take start size)) ∧ Fr (fun _ => False) w w' := by
  obtain ⟨q, hq⟩ : ∃ q, d.part = q := ⟨_, rfl⟩
  rw [hq] at h1 h2 hpt
  have hqi : (d.size : Int) / (total : Int) = (q : Int) := by rw [← hpt]; simp
  have hq32 : (q : Int) < 4294967296 := by have := hg.part; omega
  obtain ⟨P, hP⟩ : ∃ P, q * start = P := ⟨_, rfl⟩
  obtain ⟨S, hS⟩ : ∃ P, q * size = P := ⟨_, rfl⟩
  obtain ⟨C, hC⟩ : ∃ C, (d.code + 4294967296 - P % 4294967296) % 4294967296 = C := ⟨_, rfl⟩
  rw [hS] at h1 h2
  have hPb : P ≤ 18446744065119617025 := by
    rw [← hP]
    have h1 : q ≤ 4294967295 := by omega
    have h2 : start ≤ 4294967295 := by omega
    exact Nat.le_trans (Nat.mul_le_mul h1 h2) (by decide)
  have e1 : (q : Int) * (start : Int) = (P : Int) := by rw [← hP]; simp
  have e2 : (q : Int) * (size : Int) = (S : Int) := by rw [← hS]; simp
  have w1 : IntKind.u64.wrap (P : Int) = (P : Int) := IntWalk.u64_in _ (by omega)
  have w3 : IntKind.u64.wrap (S : Int) = (S : Int) := IntWalk.u64_in _ (by omega)
  obtain ⟨R, hR⟩ : ∃ R, P % 4294967296 = R := ⟨_, rfl⟩
  have hRi : (P : Int).tmod 4294967296 = (R : Int) := by rw [Int.tmod_eq_emod_of_nonneg (by omega)]; omega
  have hwd1 : IntKind.u64.wrap ((d.code : Int) + 4294967296 - (R : Int)) = (d.code : Int) + 4294967296 - (R : Int) := IntWalk.u64_in _ (by have := hg.code; omega)
  have hCi : ((d.code : Int) + 4294967296 - (R : Int)).tmod 4294967296 = (C : Int) := by rw [Int.tmod_eq_emod_of_nonneg (by omega)]; omega
  have hC1 : (d.code : Int) < 4294967296 := by have := hg.code; omega
  have hsz1 : (d.size : Int) < 4294967296 := by have := hg.hi; omega
  have hCn : C < 4294967296 := by omega
  have htt : (1 : Int) ≤ (total : Int) := by omega
  have htt2 : (total : Int) ≤ 16777216 := by omega
  have htk : d.take start size = ({ d with code := C, size := S } : Rc.D).widen := by unfold Rc.D.take; rw [hq, hP, hC, hS]
  have hwd : ∀ W, Calls Try.prog 72 #[dV { d with code := C, size := S }] W fun r w' => r = .returned (dV ({ d with code := C, size := S } : Rc.D).widen) ∧ Fr (fun _ => False) W w' := fun W => refd_wide { d with code := C, size := S } W hg.len h1 h2 hCn
  obtain ⟨y, hy⟩ : ∃ y, ({ d with code := C, size := S } : Rc.D).widen = y := ⟨_, rfl⟩
  rw [htk]
  rw [hy] at hwd ⊢
  unfold dV dC at hwd ⊢
  dsimp only at hwd ⊢
  have Hwd0 := Lib.hid hwd
  clear hwd htk hy hCn hg ht ht2 h1 h2 hs hz hq hP hS hC hpt hR hPb
  go_enter Try.func34, Try.ntmps34
  go_upto_region 4 with fail
  obtain ⟨W, hW⟩ : ∃ W, ((w.alloc (.cells #[.string ⟨d.rest.toArray⟩, .int .u64 (C : Int), .int .u64 (S : Int), .bool d.bad] 58)).alloc (.cells z58 58)) = W := ⟨_, rfl⟩
  have hz := heap_alloc_new (w.alloc (.cells #[.string ⟨d.rest.toArray⟩, .int .u64 (C : Int), .int .u64 (S : Int), .bool d.bad] 58)) (.cells z58 58)
  rw [hW, show (w.alloc (.cells #[.string ⟨d.rest.toArray⟩, .int .u64 (C : Int), .int .u64 (S : Int), .bool d.bad] 58)).heap.size = w.heap.size + 1 by simp] at hz
  have hf : Fr (fun _ => False) w W := by rw [← hW]; exact ((Fr.refl _ _).alloc _).alloc _
  have hb0 : W.heap[w.heap.size]? = some (.cells #[.string ⟨d.rest.toArray⟩, .int .u64 (C : Int), .int .u64 (S : Int), .bool d.bad] 58 (0, 0)) := by rw [← hW]; exact block_alloc (heap_alloc_new w _)
  unfold z58 at hW
  rw [hW]
  have g0 := (cell_of hb0 0)
  have g1 := (cell_of hb0 1)
  have g2 := (cell_of hb0 2)
  have g3 := (cell_of hb0 3)
  simp only [List.getElem?_toArray, List.getElem?_cons_zero, List.getElem?_cons_succ] at g0 g1 g2 g3
  have Hz := Lib.hid hz
  have Hf := Lib.hid hf
  clear hW hz hf hb0
  have Hwd := Lib.hid (Hwd0.out W)
  go_wp2_with ((go_at_call 72; refine Hwd.out.mono ?_; rintro e w3 ⟨rfl, f3⟩; have hz3 := f3.keep Hz.out (fun h => h); have HF := Lib.hid (Hf.out.trans f3 (fun _ h => .inl h)); have z0 : w3.cell? ⟨w.heap.size + 1, 0, none⟩ = some (.string ⟨#[]⟩) := (cell_of hz3 0).trans rfl; have z1 : w3.cell? ⟨w.heap.size + 1, 1, none⟩ = some (.int .u64 0) := (cell_of hz3 1).trans rfl; have z2 : w3.cell? ⟨w.heap.size + 1, 2, none⟩ = some (.int .u64 0) := (cell_of hz3 2).trans rfl; have z3 : w3.cell? ⟨w.heap.size + 1, 3, none⟩ = some (.bool false) := (cell_of hz3 3).trans rfl; have zf0 := free_of hz3 0; have zf1 := free_of hz3 1; have zf2 := free_of hz3 2; have zf3 := free_of hz3 3; clear f3 hz3))
  refine bodyPost_ret (v := .agg #[.string ⟨y.rest.toArray⟩, .int .u64 (y.code : Int), .int .u64 (y.size : Int), .bool y.bad]) ?_ rfl ⟨rfl, fr_set4 HF.out (by simp) _ _ _ _⟩
  simp [results, Try.results34, go_sem, z0, z1, z2, z3]
end Go.Proofs.Ytpddocehjljofaa
