/- Walks of layer 3 (rc): a decoder begins. -/
import Derived.Test.YtopnnbhiehljlaaDec3
namespace Go.Proofs.Ytopnnbhiehljlaa
set_option linter.unusedVariables false
open Go.RowKit Go.My

theorem pullN_len (d : Rc.D) (n : Nat) : (d.pullN n).rest.length ≤ d.rest.length ∧ (d.pullN n).size = d.size ∧ (d.pullN n).part = d.part ∧ (d.code < 4294967296 → (d.pullN n).code < 4294967296) := by
  induction n generalizing d with
  | zero => exact ⟨Nat.le_refl _, rfl, rfl, fun h => h⟩
  | succ n ih =>
    have h := ih d.pull
    have h2 := pull_size d
    have h3 := next_code d
    refine ⟨Nat.le_trans h.1 h2.2.1, h.2.1.trans h2.1, h.2.2.1.trans h3.2.2.1, fun _ => h.2.2.2 h2.2.2⟩

set_option maxHeartbeats 2000000 in
set_option maxRecDepth 100000 in
theorem dec_new (B : List UInt8) (w : World) (hB : B.length ≤ 1000000000) :
    Calls Try.prog 45 #[.string ⟨B.toArray⟩] w fun r w' => r = .returned (.pointer (some ⟨w.heap.size, 0, none⟩)) ∧ DecAt w' w.heap.size (Rc.D.read B) ∧ DecG (Rc.D.read B) ∧ Fr (fun _ => False) w w' := by
  have HB := Lib.hid hB
  have h0 : DecAt (w.alloc (.cells #[.string ⟨B.toArray⟩, .int .u32 0, .int .u32 4294967295, .int .u32 0, .bool false] 116)) w.heap.size ⟨B, 0, 4294967295, 0, false⟩ := ⟨heap_alloc_new w _⟩
  have hnx := dec_next w.heap.size ⟨B, 0, 4294967295, 0, false⟩ _ h0 hB
  have Hnx := Lib.hid hnx
  obtain ⟨z, hz⟩ : ∃ z, Rc.D.next ⟨B, 0, 4294967295, 0, false⟩ = z := ⟨_, rfl⟩
  have hzl := next_code ⟨B, 0, 4294967295, 0, false⟩
  have hz1 := next_lt ⟨B, 0, 4294967295, 0, false⟩
  have hread : Rc.D.read B = { z.2.pullN 4 with bad := (z.2.pullN 4).bad || z.1 != 0 } := by unfold Rc.D.read; rw [hz]
  rw [hz] at hzl hz1
  have Hread := Lib.hid hread
  have Hz := Lib.hid hz
  have Hzl := Lib.hid hzl
  have hG : DecG (Rc.D.read B) := by
    have h := pullN_len z.2 4
    rw [hread]
    refine ⟨?_, ?_, ?_, ?_, ?_⟩ <;> dsimp only
    · rw [h.2.1, hzl.2.1]; show 16777216 ≤ 4294967295; decide
    · rw [h.2.1, hzl.2.1]; show 4294967295 < 4294967296; decide
    · exact h.2.2.2 (by rw [hzl.1]; show 0 < 4294967296; decide)
    · exact Nat.le_trans h.1 (Nat.le_trans hzl.2.2.2 hB)
    · rw [h.2.2.1, hzl.2.2.1]; show 0 < 4294967296; decide
  have HG := Lib.hid hG
  have hz256 : (z.1 : Int) < 256 := by omega
  clear hB h0 hnx hz hzl hz1 hread hG
  go_enter Try.func45, Try.ntmps45
  go_upto_region 3 with (go_at_call 60; refine Hnx.out.mono ?_; rintro r w1 ⟨rfl, h1, h2⟩; rw [Hz.out] at h1 ⊢; have HE := Lib.hid h1; have HF : Hid (Fr (fun _ => False) w w1) := (((Fr.refl _ w).alloc _).trans h2 (fun k hk => .inr (Nat.le_of_eq hk.symm))); clear h1 h2)
  go_wp2
  go_loopw [10] (fun v10 wr => ∃ (i : Nat) (x : Rc.D), i ≤ 4 ∧ v10 = .int .i64 (i : Int) ∧ Hid (x.pullN (4 - i) = z.2.pullN 4) ∧ Hid (x.rest.length ≤ 1000000000) ∧ Hid (DecAt wr w.heap.size x) ∧ Hid (Fr (fun _ => False) w wr)) (fun v10 _ => 4 - (intOf v10).toNat)
  case atStart => exact ⟨0, z.2, by omega, rfl, rfl, Nat.le_trans Hzl.out.2.2.2 HB.out, HE, HF⟩
  case round =>
    obtain ⟨i, y, hi, rfl, hp, hl, HE2, HF2⟩ := hrel
    clear HE HF Hnx
    by_cases hlt : i < 4
    · have hp' : Hid (y.pull.pullN (4 - (i + 1)) = z.2.pullN 4) := by rw [← hp.out, show 4 - i = (4 - (i + 1)) + 1 by omega]; rfl
      have hb' : Hid (y.pull.rest.length ≤ 1000000000) := Nat.le_trans (pull_size y).2.1 hl.out
      have hny := dec_next w.heap.size y wr.drew HE2.out.drew hl.out
      have Hny := Lib.hid hny
      have d1 := HE2.out.cells.2.1
      have hor : Go.bits .or .u32 (IntKind.u32.wrap ((y.code : Int) * 256)) (IntKind.u32.wrap (y.next.1 : Int)) = (y.pull.code : Int) := by
        rw [IntWalk.u32_in (y.next.1 : Int) (by have := next_lt y; omega), IntKind.wrap_u32, or8 _ _ (next_lt y)]; rfl
      have Hnc := Lib.hid (next_code y).1
      clear hny hp hl
      go_upto_region 5 with fail
      go_region_with (go_at_call 60; refine Hny.out.mono ?_; rintro r w1 ⟨rfl, h1, h2⟩; have HE := Lib.hid h1; have HF := Lib.hid h2; have e1 : w1.cell? ⟨w.heap.size, 1, none⟩ = some (.int .u32 (y.code : Int)) := by { rw [← Hnc.out]; exact h1.cells.2.1 }; have g1 := h1.cells.2.2.2.2.2 1; clear h1 h2)
      all_goals go_wp2
      all_goals go_roundw
      all_goals first | (simp [intOf]; omega) | skip
      all_goals have k3 := HE.out.set (d' := y.pull) 1 (.int .u32 (y.pull.code : Int)) (by simp [Rc.D.pull])
      all_goals exact ⟨i + 1, y.pull, by omega, by go_num, hp', hb', k3.1, (HF2.out.trans ((Fr.refl (one w.heap.size) wr).drew) (fun k hk => .inr (Nat.le_of_eq hk.symm))).trans (one_trans HF.out k3.2) (fun k hk => .inr (Nat.le_of_eq hk.symm))⟩
    · obtain rfl : i = 4 := by omega
      have hy : y = z.2.pullN 4 := hp.out
      have Hy := Lib.hid hy
      clear hy hp hl hlt
      obtain ⟨d0, d1, d2, d3, d4, fr⟩ := HE2.out.cells
      have f4 := fr 4
      have ht : ∃ t, ((z.1 : Int) != 0) = t ∧ (z.1 != 0) = t := ⟨_, rfl, by rw [Bool.eq_iff_iff]; simp⟩
      obtain ⟨t, ht, ht'⟩ := ht
      have Ht := Lib.hid ht'
      have hk := HE2.out.set (d' := Rc.D.read B) 4 (.bool (y.bad || t)) (by rw [Hread.out, ht', ← Hy.out]; simp)
      have HK := Lib.hid hk
      clear ht' hk fr
      obtain ⟨b, hb⟩ : ∃ b, y.bad = b := ⟨_, rfl⟩
      rw [hb] at HK d4
      clear hb d0 d1 d2 d3
      cases b
      · cases t
        · go_wp2
          go_ret
          exact ⟨rfl, HK.out.1, HG.out, HF2.out.trans HK.out.2 (fun k hk => .inr (Nat.le_of_eq hk.symm))⟩
        · go_wp2
          go_ret
          exact ⟨rfl, HK.out.1, HG.out, HF2.out.trans HK.out.2 (fun k hk => .inr (Nat.le_of_eq hk.symm))⟩
      · go_wp2
        go_ret
        exact ⟨rfl, HK.out.1, HG.out, HF2.out.trans HK.out.2 (fun k hk => .inr (Nat.le_of_eq hk.symm))⟩
end Go.Proofs.Ytopnnbhiehljlaa
