/- Walks of the reference of layer 3 (rc): the decoder begins. -/
import Derived.Test.YtpddocehjljofaaRefE
namespace Go.Proofs.Ytpddocehjljofaa
open Go.RowKit Go.My

set_option maxHeartbeats 2000000 in
set_option maxRecDepth 100000 in
theorem refd_read (B : List UInt8) (w : World) (hB : B.length ≤ 1000000000) :
    Calls Try.prog 31 #[.string ⟨B.toArray⟩] w fun r w' => r = .returned (dV (Rc.D.read B)) ∧ Fr (fun _ => False) w w' := by
  have HB := Lib.hid hB
  have hnx := fun W => refd_next ⟨B, 0, 4294967295, 0, false⟩ W hB
  obtain ⟨z, hz⟩ : ∃ z, Rc.D.next ⟨B, 0, 4294967295, 0, false⟩ = z := ⟨_, rfl⟩
  have hzl := next_code ⟨B, 0, 4294967295, 0, false⟩
  have hz1 := next_lt ⟨B, 0, 4294967295, 0, false⟩
  have hread : Rc.D.read B = { z.2.pullN 4 with bad := (z.2.pullN 4).bad || z.1 != 0 } := by unfold Rc.D.read; rw [hz]
  rw [hz] at hzl hz1
  simp only [hz] at hnx
  have hz256 : (z.1 : Int) < 256 := by omega
  unfold dV dC at hnx
  dsimp only at hnx
  rw [show ((0 : Nat) : Int) = 0 from rfl, show ((4294967295 : Nat) : Int) = 4294967295 from rfl] at hnx
  have Hread := Lib.hid hread
  have Hzl := Lib.hid hzl
  have Hnx := Lib.hid hnx
  clear hB hz hzl hz1 hread hnx
  go_enter Try.func31, Try.ntmps31
  go_upto_region 2 with fail
  obtain ⟨W, hW⟩ : ∃ W, ((w.alloc (.cells z58 58)).alloc (.cells #[.string ⟨B.toArray⟩, .int .u64 0, .int .u64 4294967295, .bool false] 58)) = W := ⟨_, rfl⟩
  have hb0 := heap_alloc_new (w.alloc (.cells z58 58)) (.cells #[.string ⟨B.toArray⟩, .int .u64 0, .int .u64 4294967295, .bool false] 58)
  rw [hW, show (w.alloc (.cells z58 58)).heap.size = w.heap.size + 1 by simp] at hb0
  have hf : Fr (fun _ => False) w W := by rw [← hW]; exact ((Fr.refl _ _).alloc _).alloc _
  have hz : W.heap[w.heap.size]? = some (.cells z58 58 (0, 0)) := by rw [← hW]; exact block_alloc (heap_alloc_new w _)
  unfold z58 at hW
  rw [hW]
  have g0 := (cell_of hb0 0)
  have g1 := (cell_of hb0 1)
  have g2 := (cell_of hb0 2)
  have g3 := (cell_of hb0 3)
  simp only [List.getElem?_toArray, List.getElem?_cons_zero, List.getElem?_cons_succ] at g0 g1 g2 g3
  have Hz := Lib.hid hz
  have Hf := Lib.hid hf
  have Hb := Lib.hid hb0
  clear hW hz hf hb0
  have Hnw := Lib.hid (Hnx.out W)
  clear Hnx
  go_wp2_with (go_at_call 71; refine Hnw.out.mono ?_; rintro r w1 ⟨rfl, h2⟩; have hB1 := h2.keep Hb.out (fun h => h); have HB1 := Lib.hid hB1; have HZ1 := Lib.hid (h2.keep Hz.out (fun h => h)); have HF1 := Lib.hid (Hf.out.trans h2 (fun _ h => .inl h)); have k0 : w1.cell? ⟨w.heap.size + 1, 0, none⟩ = some (.string ⟨B.toArray⟩) := (cell_of hB1 0).trans rfl; have k1 : w1.cell? ⟨w.heap.size + 1, 1, none⟩ = some (.int .u64 0) := (cell_of hB1 1).trans rfl; have k2 : w1.cell? ⟨w.heap.size + 1, 2, none⟩ = some (.int .u64 4294967295) := (cell_of hB1 2).trans rfl; have k3 : w1.cell? ⟨w.heap.size + 1, 3, none⟩ = some (.bool false) := (cell_of hB1 3).trans rfl; have kf0 := free_of hB1 0; have kf1 := free_of hB1 1; have kf2 := free_of hB1 2; have kf3 := free_of hB1 3; clear h2 hB1)
  clear g0 g1 g2 g3 Hnw Hz Hf Hb
  clear k0 k1 k2 k3
  generalize Value.agg #[.string ⟨B.toArray⟩, .int .u64 0, .int .u64 4294967295, .bool false] = V8
  go_loopw [5] (fun v5 wr => ∃ (i : Nat) (x : Rc.D), i ≤ 4 ∧ v5 = .int .i64 (i : Int) ∧ Hid (x.pullN (4 - i) = z.2.pullN 4) ∧ Hid (x.rest.length ≤ 1000000000) ∧ Hid (x.code < 256 ^ i) ∧ Hid (wr.heap[w.heap.size + 1]? = some (.cells (dC x) 58 (0, 0))) ∧ Hid (wr.heap[w.heap.size]? = some (.cells z58 58 (0, 0))) ∧ Hid (Fr (fun _ => False) w wr)) (fun v5 _ => 4 - (intOf v5).toNat)
  case atStart =>
    refine ⟨0, z.2, by omega, rfl, rfl, Nat.le_trans Hzl.out.2.2.2 HB.out, ?_, ?_, ?_, fr_set4 HF1.out (by simp) _ _ _ _⟩
    · show z.2.code < 256 ^ 0
      rw [Hzl.out.1]; decide
    · exact blk_set4 HB1.out _ _ _ _
    · exact blk_oth4 HZ1.out (by simp) _ _ _ _
  case round =>
    obtain ⟨i, x, hi, rfl, hp, hl, hc, HB2, HZ2, HF2⟩ := hrel
    clear HB1 HZ1 HF1 kf0 kf1 kf2 kf3
    have d0 : wr.cell? ⟨w.heap.size + 1, 0, none⟩ = some (.string ⟨x.rest.toArray⟩) := (cell_of HB2.out 0).trans rfl
    have d1 : wr.cell? ⟨w.heap.size + 1, 1, none⟩ = some (.int .u64 (x.code : Int)) := (cell_of HB2.out 1).trans rfl
    have d2 : wr.cell? ⟨w.heap.size + 1, 2, none⟩ = some (.int .u64 (x.size : Int)) := (cell_of HB2.out 2).trans rfl
    have d3 : wr.cell? ⟨w.heap.size + 1, 3, none⟩ = some (.bool x.bad) := (cell_of HB2.out 3).trans rfl
    by_cases hlt : i < 4
    · have hp' : Hid (x.pull.pullN (4 - (i + 1)) = z.2.pullN 4) := by rw [← hp.out, show 4 - i = (4 - (i + 1)) + 1 by omega]; rfl
      have hb' : Hid (x.pull.rest.length ≤ 1000000000) := Nat.le_trans (pull_size x).2.1 hl.out
      have hnc := next_code x
      have hnl := next_lt x
      have hcode : x.pull.code = x.code * 256 + x.next.1 ∧ x.code * 256 + x.next.1 < 256 ^ (i + 1) := by
        have h := hc.out
        have h3 : x.code * 256 + x.next.1 < 256 ^ (i + 1) := by rw [Nat.pow_succ]; omega
        have h4 : 256 ^ (i + 1) ≤ 256 ^ 4 := Nat.pow_le_pow_right (by decide) (by omega)
        refine ⟨?_, h3⟩
        show (x.code * 256 + x.next.1) % 4294967296 = _
        exact Nat.mod_eq_of_lt (by omega)
      have hc32 : (x.code : Int) < 16777216 := by
        have h := hc.out
        have h4 : 256 ^ i ≤ 256 ^ 3 := Nat.pow_le_pow_right (by decide) (by omega)
        omega
      have hnx := refd_next x wr hl.out
      have hpull : x.pull = { x.next.2 with code := x.code * 256 + x.next.1 } := by rw [← hcode.1]; rfl
      obtain ⟨y, hy⟩ : ∃ y, x.next.2 = y := ⟨_, rfl⟩
      obtain ⟨b, hbb⟩ : ∃ b, x.next.1 = b := ⟨_, rfl⟩
      rw [hy, hbb] at hpull hnx
      rw [hy] at hnc
      rw [hbb] at hnl hcode
      have hc' : Hid (x.pull.code < 256 ^ (i + 1)) := by show _ < _; rw [hcode.1]; exact hcode.2
      unfold dV dC at hnx
      rw [hnc.1, hnc.2.1] at hnx
      have Hnx := Lib.hid hnx
      have Hp := Lib.hid hpull
      have Hnc := Lib.hid hnc
      have hb32 : (b : Int) < 256 := by omega
      clear hnx hpull hnc hnl hcode hy hbb hp hl hc
      have Hc32 := Lib.hid (And.intro hc32 hb32)
      clear hc32 hb32
      go_upto_region 7 with fail
      obtain ⟨hc32, hb32⟩ := Hc32.out
      go_wp2_with (go_at_call 71; refine Hnx.out.mono ?_; rintro r w1 ⟨rfl, h2⟩; have hB1 := h2.keep HB2.out (fun h => h); have HB1 := Lib.hid hB1; have HZ1 := Lib.hid (h2.keep HZ2.out (fun h => h)); have HF1 := Lib.hid (HF2.out.trans h2 (fun _ h => .inl h)); have k0 : w1.cell? ⟨w.heap.size + 1, 0, none⟩ = some (.string ⟨x.rest.toArray⟩) := (cell_of hB1 0).trans rfl; have k1 : w1.cell? ⟨w.heap.size + 1, 1, none⟩ = some (.int .u64 (x.code : Int)) := (cell_of hB1 1).trans rfl; have k2 : w1.cell? ⟨w.heap.size + 1, 2, none⟩ = some (.int .u64 (x.size : Int)) := (cell_of hB1 2).trans rfl; have k3 : w1.cell? ⟨w.heap.size + 1, 3, none⟩ = some (.bool x.bad) := (cell_of hB1 3).trans rfl; have kf0 := free_of hB1 0; have kf1 := free_of hB1 1; have kf2 := free_of hB1 2; have kf3 := free_of hB1 3; clear h2 hB1)
      go_roundw
      case rel =>
        have q1 := blk_set4 HB1.out (.string ⟨y.rest.toArray⟩) (.int .u64 (x.code : Int)) (.int .u64 (x.size : Int)) (.bool y.bad)
        have q2 := block_setCell q1 (off := 1) (.int .u64 (256 * (x.code : Int) + (b : Int)))
        refine ⟨i + 1, x.pull, by omega, by go_num, hp', hb', hc', ?_, ?_, (fr_set4 HF1.out (by simp) _ _ _ _).setCell _ _ (.inr (by simp))⟩
        · show _ = _
          rw [q2, Hp.out]
          have hcode : (((x.code * 256 + b : Nat)) : Int) = 256 * (x.code : Int) + (b : Int) := by omega
          have hsz : y.size = x.size := Hnc.out.2.1
          unfold dC
          simp [hcode, hsz]
        · exact block_setCell_other (blk_oth4 HZ1.out (by omega) _ _ _ _) (by omega) _
      case measure => simp [intOf]; omega
    · obtain rfl : i = 4 := by omega
      have hy : x = z.2.pullN 4 := hp.out
      have Hy := Lib.hid hy
      have z0 : wr.cell? ⟨w.heap.size, 0, none⟩ = some (.string ⟨#[]⟩) := (cell_of HZ2.out 0).trans rfl
      have z1 : wr.cell? ⟨w.heap.size, 1, none⟩ = some (.int .u64 0) := (cell_of HZ2.out 1).trans rfl
      have z2 : wr.cell? ⟨w.heap.size, 2, none⟩ = some (.int .u64 0) := (cell_of HZ2.out 2).trans rfl
      have z3 : wr.cell? ⟨w.heap.size, 3, none⟩ = some (.bool false) := (cell_of HZ2.out 3).trans rfl
      have zf0 := free_of HZ2.out 0
      have zf1 := free_of HZ2.out 1
      have zf2 := free_of HZ2.out 2
      have zf3 := free_of HZ2.out 3
      have f3 := free_of HB2.out 3
      clear hy hp hl hc hlt
      by_cases ht : z.1 = 0
      · have hr : Rc.D.read B = x := by rw [Hread.out, ← Hy.out, ht]; simp
        have Hr := Lib.hid hr
        have ht' : (z.1 : Int) = 0 := by omega
        rw [ht']
        clear hr ht ht' hz256
        go_wp2
        refine bodyPost_ret (v := .agg #[.string ⟨x.rest.toArray⟩, .int .u64 (x.code : Int), .int .u64 (x.size : Int), .bool x.bad]) ?_ rfl ⟨by rw [Hr.out]; rfl, fr_set4 HF2.out (by simp) _ _ _ _⟩
        simp [results, Try.results31, go_sem, z0, z1, z2, z3]
      · have hr : Rc.D.read B = { x with bad := true } := by rw [Hread.out, ← Hy.out]; simp [ht]
        have Hr := Lib.hid hr
        have ht' : ((z.1 : Int) == 0) = false := beq_eq_false_iff_ne.2 (by omega)
        have ht2 : (z.1 == 0) = false := beq_eq_false_iff_ne.2 (by omega)
        clear hr ht hz256
        go_wp2
        refine bodyPost_ret (v := .agg #[.string ⟨x.rest.toArray⟩, .int .u64 (x.code : Int), .int .u64 (x.size : Int), .bool true]) ?_ rfl ⟨by rw [Hr.out]; rfl, fr_set4 (HF2.out.setCell _ _ (.inr (by simp))) (by simp) _ _ _ _⟩
        simp [results, Try.results31, go_sem, z0, z1, z2, z3]
end Go.Proofs.Ytpddocehjljofaa
