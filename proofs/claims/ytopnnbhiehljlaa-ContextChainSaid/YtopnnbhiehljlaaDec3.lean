/- Walks of layer 3 (rc): the decoder's direct bits, parts, its beginning. -/
import Derived.Test.YtopnnbhiehljlaaDec2
namespace Go.Proofs.Ytopnnbhiehljlaa
set_option linter.unusedVariables false
open Go.RowKit Go.My

theorem or1 (v : Nat) (h : v * 2 < 4294967296) : Go.bits .or .u32 ((v : Int) * 2) 1 = (v : Int) * 2 + 1 :=
  bits_join .u32 32 (by decide) (fun n h0 h1 => by rw [IntKind.wrap_u32]; omega) 1 _ _ (by omega) (by omega) (by omega) (by omega) (by omega) (by omega)

set_option maxHeartbeats 2000000 in
set_option maxRecDepth 100000 in
theorem dec_where (p : Nat) (d : Rc.D) (total : Nat) (w : World) (h : DecAt w p d) (hg : DecG d) (ht : 1 ≤ total) (ht2 : total ≤ 16777216) :
    Calls Try.prog 70 #[.pointer (some ⟨p, 0, none⟩), .int .u32 (total : Int)] w fun r w' => r = .returned (.int .u32 ((d.where_ total).1 : Int)) ∧
      DecAt w' p (d.where_ total).2 ∧ Fr (one p) w w' := by
  obtain ⟨d0, d1, d2, d3, d4, fr⟩ := h.cells
  have f3 := fr 3
  obtain ⟨q, hq⟩ : ∃ q, d.size / total = q := ⟨_, rfl⟩
  have hqi : (d.size : Int) / (total : Int) = (q : Int) := by rw [← hq]; simp
  have hq1 : 1 ≤ q := by rw [← hq]; exact (Nat.le_div_iff_mul_le ht).2 (by have := hg.lo; omega)
  have hqq : (1 : Int) ≤ (q : Int) := by omega
  have hq32 : (q : Int) < 4294967296 := by have := hg.hi; have := Nat.div_le_self d.size total; omega
  obtain ⟨c, hc⟩ : ∃ c, d.code / q = c := ⟨_, rfl⟩
  have hci : (d.code : Int) / (q : Int) = (c : Int) := by rw [← hc]; simp
  have hc32 : (c : Int) < 4294967296 := by have := hg.code; have := Nat.div_le_self d.code q; omega
  have htt : (1 : Int) ≤ (total : Int) := by omega
  have htt2 : (total : Int) ≤ 16777216 := by omega
  have hsz0 : (0 : Int) ≤ (d.size : Int) := by omega
  have hk := h.set (d' := { d with part := q }) 3 (.int .u32 (q : Int)) (by simp)
  have HK := Lib.hid hk
  have hwh : d.where_ total = (min (d.code / q) (total - 1), { d with part := q }) := by unfold Rc.D.where_; rw [hq]
  rw [hc] at hwh
  have Hwh := Lib.hid hwh
  have hwm : IntKind.u32.wrap ((total : Int) - 1) = (total : Int) - 1 := IntWalk.u32_in _ (by omega)
  clear h hg ht ht2 hq hq1 hk hwh fr hc
  go_enter Try.func70, Try.ntmps70
  go_upto_region 4 with fail
  clear d0 d1 d2 d3 d4 f3 hqi
  generalize w.setCell ⟨p, 3, none⟩ (.int .u32 (q : Int)) = W at *
  obtain ⟨d0, d1, d2, d3, d4, fr⟩ := HK.out.1.cells
  by_cases hlt : (c : Int) ≤ (total : Int) - 1
  · have ht1 : decide ((c : Int) ≤ (total : Int) - 1) = true := by simp; omega
    go_region
    all_goals go_wp2
    all_goals go_ret
    all_goals rw [Hwh.out]
    all_goals refine ⟨?_, HK.out.1.drew, HK.out.2.drew⟩
    all_goals show Ending.returned (.int .u32 (c : Int)) = .returned (.int .u32 ((min c (total - 1) : Nat) : Int))
    all_goals rw [show ((min c (total - 1) : Nat) : Int) = (c : Int) by omega]
  · have ht1 : decide ((c : Int) ≤ (total : Int) - 1) = false := by simp; omega
    go_region
    all_goals go_wp2
    all_goals go_ret
    all_goals rw [Hwh.out]
    all_goals refine ⟨?_, HK.out.1.drew, HK.out.2.drew⟩
    all_goals show Ending.returned (.int .u32 ((total : Int) - 1)) = .returned (.int .u32 ((min c (total - 1) : Nat) : Int))
    all_goals rw [show ((min c (total - 1) : Nat) : Int) = (total : Int) - 1 by omega]

set_option maxHeartbeats 2000000 in
set_option maxRecDepth 100000 in
theorem dec_take (p : Nat) (d : Rc.D) (start size : Nat) (w : World) (h : DecAt w p d) (hl : d.rest.length ≤ 1000000000) (h1 : 1 ≤ d.part * size) (h2 : d.part * size < 4294967296) (hp : d.part < 4294967296) (hs : start < 4294967296) (hz : size < 4294967296) :
    Calls Try.prog 71 #[.pointer (some ⟨p, 0, none⟩), .int .u32 (start : Int), .int .u32 (size : Int)] w fun r w' => r = .returned (.tuple #[]) ∧
      DecAt w' p (d.take start size) ∧ Fr (one p) w w' := by
  obtain ⟨d0, d1, d2, d3, d4, fr⟩ := h.cells
  have f1 := fr 1
  obtain ⟨P, hP⟩ : ∃ P, d.part * start = P := ⟨_, rfl⟩
  obtain ⟨S, hS⟩ : ∃ P, d.part * size = P := ⟨_, rfl⟩
  obtain ⟨C, hC⟩ : ∃ C, (d.code + 4294967296 - P % 4294967296) % 4294967296 = C := ⟨_, rfl⟩
  rw [hS] at h1 h2
  have e1 : (d.part : Int) * (start : Int) = (P : Int) := by rw [← hP]; simp
  have e2 : (d.part : Int) * (size : Int) = (S : Int) := by rw [← hS]; simp
  have w1 : IntKind.u32.wrap ((d.part : Int) * (start : Int)) = ((P % 4294967296 : Nat) : Int) := by rw [e1, IntKind.wrap_u32]; simp
  have w2 : IntKind.u32.wrap ((d.code : Int) - ((P % 4294967296 : Nat) : Int)) = (C : Int) := by rw [IntKind.wrap_u32]; omega
  have w3 : IntKind.u32.wrap ((d.part : Int) * (size : Int)) = (S : Int) := by rw [e2]; exact IntWalk.u32_in _ (by omega)
  have hk := h.drew.set (d' := { d with code := C }) 1 (.int .u32 (C : Int)) (by simp)
  have HK := Lib.hid hk
  have hk1 : ∀ n, DecAt ((w.setCell ⟨p, 1, none⟩ (.int .u32 (C : Int))).drewN n) p { d with code := C } ∧ Fr (one p) w ((w.setCell ⟨p, 1, none⟩ (.int .u32 (C : Int))).drewN n) := fun n => by
    have h := h.set (d' := { d with code := C }) 1 (.int .u32 (C : Int)) (by simp)
    exact ⟨h.1.drewN n, h.2.drewN n⟩
  have HK1 := Lib.hid hk1
  have htk : d.take start size = ({ d with code := C, size := S } : Rc.D).widen := by unfold Rc.D.take; rw [hP, hC, hS]
  have Htk := Lib.hid htk
  have H1 := Lib.hid h1
  have H2 := Lib.hid h2
  have Hl := Lib.hid hl
  have hp' : (d.part : Int) < 4294967296 := by omega
  have hP32 : ((P % 4294967296 : Nat) : Int) < 4294967296 := by omega
  obtain ⟨Q, hQ⟩ : ∃ Q, P % 4294967296 = Q := ⟨_, rfl⟩
  rw [hQ] at w1 w2 hP32
  clear h hl h1 h2 hp hs hz hP hS hC e1 e2 hk hk1 htk fr hQ
  go_enter Try.func71, Try.ntmps71
  go_wp2
  go_cut [20] (fun _ wx => Hid (DecAt wx p { d with code := C }) ∧ Hid (Fr (one p) w wx))
  case first =>
    go_region
    all_goals go_wp2
    all_goals go_meet
    all_goals exact ⟨(HK1.out 1).1, (HK1.out 1).2⟩
  case rest =>
    obtain ⟨HE, HS⟩ := hcut
    clear d0 d1 d2 d3 d4 f1 HK HK1 w1 w2
    obtain ⟨d0, d1, d2, d3, d4, fr⟩ := HE.out.cells
    have f2 := fr 2
    have hk3 := HE.out.set (d' := { d with code := C, size := S }) 2 (.int .u32 (S : Int)) (by simp)
    have HK3 := Lib.hid hk3
    have hwd := dec_widen p { d with code := C, size := S } _ hk3.1 Hl.out H1.out H2.out
    have Hwd := Lib.hid hwd
    have hS1 : (S : Int) < 4294967296 := by have := H2.out; omega
    clear hwd hk3 fr
    go_wp2_with (go_at_call 73; refine Hwd.out.mono ?_; rintro r w1 ⟨rfl, h1, h2⟩; have HE := Lib.hid h1; have HF := Lib.hid h2; clear h1 h2)
    go_end0
    exact ⟨rfl, by rw [Htk.out]; exact HE.out, one_trans HS.out (one_trans HK3.out.2 HF.out)⟩

theorem DecG.where_ {d : Rc.D} (h : DecG d) (total : Nat) : DecG (d.where_ total).2 := ⟨h.lo, h.hi, h.code, h.len, Nat.lt_of_le_of_lt (Nat.div_le_self _ _) h.hi⟩
theorem DecG.take {d : Rc.D} (h : DecG d) {start size : Nat} (h1 : 1 ≤ d.part * size) (h2 : d.part * size < 4294967296) : DecG (d.take start size) := by
  unfold Rc.D.take
  exact DecG.widen h1 h2 (Nat.mod_lt _ (by decide)) h.len h.part
end Go.Proofs.Ytopnnbhiehljlaa
