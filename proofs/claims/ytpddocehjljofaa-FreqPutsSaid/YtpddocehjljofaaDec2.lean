/- Walks of layer 3 (rc): the decoder's steps. -/
import Derived.Test.YtpddocehjljofaaDec
import Derived.Test.YtpddocehjljofaaEnc3
namespace Go.Proofs.Ytpddocehjljofaa
set_option linter.unusedVariables false
open Go.RowKit Go.My

/-- A decoder whose range is as large as it is between two steps. -/
structure DecG (d : Rc.D) : Prop where
  lo : 16777216 ≤ d.size
  hi : d.size < 4294967296
  code : d.code < 4294967296
  len : d.rest.length ≤ 1000000000
  part : d.part < 4294967296

theorem dwidenN_part (d : Rc.D) (n : Nat) : (d.widenN n).part = d.part ∧ (d.widenN n).rest.length ≤ d.rest.length := by
  induction n generalizing d with
  | zero => exact ⟨rfl, Nat.le_refl _⟩
  | succ n ih =>
    unfold Rc.D.widenN
    split
    · have h := ih ({ d with size := d.size * 256 } : Rc.D).pull
      have h2 := next_code ({ d with size := d.size * 256 } : Rc.D)
      have h3 := pull_size ({ d with size := d.size * 256 } : Rc.D)
      refine ⟨h.1.trans h2.2.2.1, Nat.le_trans h.2 h3.2.1⟩
    · exact ⟨rfl, Nat.le_refl _⟩
theorem dwidenN_code (d : Rc.D) (n : Nat) (h : d.code < 4294967296) : (d.widenN n).code < 4294967296 := by
  induction n generalizing d with
  | zero => exact h
  | succ n ih =>
    unfold Rc.D.widenN
    split
    · exact ih _ (pull_size _).2.2
    · exact h
theorem dwiden_size (d : Rc.D) (h1 : 1 ≤ d.size) (h2 : d.size < 4294967296) : 16777216 ≤ d.widen.size ∧ d.widen.size < 4294967296 := by
  have key : ∀ (n : Nat) (d : Rc.D), 1 ≤ d.size → d.size < 4294967296 → 16777216 ≤ d.size * 256 ^ n → 16777216 ≤ (d.widenN n).size ∧ (d.widenN n).size < 4294967296 := by
    intro n
    induction n with
    | zero => intro d _ h2 h3; simp at h3; exact ⟨h3, h2⟩
    | succ n ih =>
      intro d h1 h2 h3
      unfold Rc.D.widenN
      split
      · next hs =>
        refine ih _ ?_ ?_ ?_ <;> rw [(pull_size _).1] <;> dsimp only
        · omega
        · omega
        · rw [Nat.pow_succ, Nat.mul_comm (256 ^ n), ← Nat.mul_assoc] at h3; exact h3
      · next hs => exact ⟨by omega, h2⟩
  exact key 3 d h1 h2 (by omega)
theorem DecG.widen {d : Rc.D} (h1 : 1 ≤ d.size) (h2 : d.size < 4294967296) (hc : d.code < 4294967296) (hl : d.rest.length ≤ 1000000000) (hp : d.part < 4294967296) : DecG d.widen := by
  have hs := dwiden_size d h1 h2
  have hk := dwidenN_part d 3
  exact ⟨hs.1, hs.2, dwidenN_code d 3 hc, Nat.le_trans hk.2 hl, by show (d.widenN 3).part < _; rw [hk.1]; exact hp⟩
theorem DecG.bit {d : Rc.D} (h : DecG d) {x : Nat} (hx : Rc.PrOk x) : DecG (d.bit x).2 := by
  have hb := Rc.bound_in h.lo hx
  have := h.hi
  have hc := h.code
  unfold Rc.D.bit
  split
  · exact DecG.widen hb.1 (by show Rc.bound _ _ < _; omega) hc h.len h.part
  · exact DecG.widen (by show 1 ≤ d.size - _; omega) (by show d.size - _ < _; omega) (by show d.code - _ < _; omega) h.len h.part
theorem DecG.direct {d : Rc.D} (h : DecG d) : DecG d.direct.2 := by
  have := h.hi
  have := h.lo
  have hc := h.code
  unfold Rc.D.direct
  split
  · exact DecG.widen (by show 1 ≤ d.size / 2; omega) (by show d.size / 2 < _; omega) hc h.len h.part
  · exact DecG.widen (by show 1 ≤ d.size / 2; omega) (by show d.size / 2 < _; omega) (by show d.code - _ < _; omega) h.len h.part

set_option maxHeartbeats 2000000 in
set_option maxRecDepth 100000 in
theorem dec_bit (p : Nat) (d : Rc.D) (pb po x : Nat) (w : World) (h : DecAt w p d) (hg : DecG d) (hx : Rc.PrOk x)
    (hc : w.cell? ⟨pb, po, none⟩ = some (.int .u16 (x : Int))) (hf : w.frozen? ⟨pb, po, none⟩ = false) (hap : pb ≠ p) :
    Calls Try.prog 28 #[.pointer (some ⟨p, 0, none⟩), .pointer (some ⟨pb, po, none⟩)] w fun r w' => r = .returned (.int .i64 ((d.bit x).1 : Int)) ∧
      DecAt w' p (d.bit x).2 ∧ Fr (one p) (w.setCell ⟨pb, po, none⟩ (.int .u16 (Rc.learn x (d.bit x).1 : Nat))) w' := by
  have hbd := Rc.bound_in hg.lo hx
  have hx0 : 0 ≤ (x : Int) := by omega
  have hx1 : (x : Int) ≤ 2048 := by have := hx.2; omega
  have hs2 := hg.hi
  have hwr : IntKind.u32.wrap ((d.size : Int) / 2048 * (x : Int)) = ((Rc.bound d.size x : Nat) : Int) := by
    have e1 : ((Rc.bound d.size x : Nat) : Int) = (d.size : Int) / 2048 * (x : Int) := by unfold Rc.bound; simp
    rw [← e1]
    exact IntWalk.u32_in _ (by omega)
  have hsz0 : 0 ≤ (d.size : Int) := by omega
  have hcd : (d.code : Int) < 4294967296 := by have := hg.code; omega
  obtain ⟨d0, d1, d2, d3, d4, fr⟩ := h.cells
  have f1 := fr 1
  have f2 := fr 2
  have H := Lib.hid h
  have Hg := Lib.hid hg
  have Hbd := Lib.hid hbd
  have Hx := Lib.hid hx
  obtain ⟨B, hB⟩ : ∃ B, Rc.bound d.size x = B := ⟨_, rfl⟩
  rw [hB] at hwr
  have HB := Lib.hid hB
  clear h hg hbd hs2 hx hB fr
  by_cases h0 : d.code < B
  · have h0' : decide (d.code < B) = true := by simpa using h0
    have hk : ∀ n, DecAt ((w.drewN n).setCell ⟨p, 2, none⟩ (.int .u32 (B : Int))) p { d with size := B } ∧ Fr (one p) w ((w.drewN n).setCell ⟨p, 2, none⟩ (.int .u32 (B : Int))) := fun n => by
      have h := (H.out.drewN n).set (d' := { d with size := B }) 2 (.int .u32 (B : Int)) (by simp)
      exact ⟨h.1, one_trans ((Fr.refl _ _).drewN n) h.2⟩
    have HK := Lib.hid hk
    have hbit : d.bit x = (0, ({ d with size := B } : Rc.D).widen) := by unfold Rc.D.bit; rw [HB.out, if_pos h0]
    rw [hbit]
    clear h0 hk hbit
    go_enter Try.func28, Try.ntmps28
    go_wp2
    go_quiet (fail)
    go_upto_region 10 with fail
    obtain ⟨HE, HS⟩ := HK.out nq
    have hc1 := HS.cell_ hc hap
    have hf1 := HS.frozen_ hc hf hap
    have HE1 := Lib.hid HE
    have HS1 := Lib.hid HS
    clear HE HS HK d0 d1 d2 d3 d4 f1 f2 hc hf hwr h0'
    generalize (w.drewN nq).setCell ⟨p, 2, none⟩ (.int .u32 (B : Int)) = W at *
    have hl := learn_is pb po x 0 (by have := Hx.out.2; omega) W hc1 hf1
    have Hl := Lib.hid hl
    have HE2 : Hid (DecAt (W.setCell ⟨pb, po, none⟩ (.int .u16 (Rc.learn x 0 : Nat))).drew p ({ d with size := B } : Rc.D)) := (HE1.out.far hap _).drew
    have HS2 : Hid (Fr (one p) (w.setCell ⟨pb, po, none⟩ (.int .u16 (Rc.learn x 0 : Nat))) (W.setCell ⟨pb, po, none⟩ (.int .u16 (Rc.learn x 0 : Nat))).drew) := (HS1.out.both ⟨pb, po, none⟩ _ hap).drew
    clear hl hc1 hf1
    go_upto_region 11 with (go_at_call 66; refine Hl.out.mono ?_; rintro r w1 ⟨rfl, hw⟩; rw [hw]; clear hw)
    clear Hl HE1 HS1
    generalize (W.setCell ⟨pb, po, none⟩ (.int .u16 (Rc.learn x 0 : Nat))).drew = W2 at *
    have hwd := dec_widen p ({ d with size := B } : Rc.D) W2 HE2.out Hg.out.len (by have := Hbd.out; have := HB.out; dsimp only; omega) (by have := Hbd.out; have := Hg.out.hi; have := HB.out; dsimp only; omega)
    have Hwd := Lib.hid hwd
    clear hwd
    go_wp2_with (go_at_call 70; refine Hwd.out.mono ?_; rintro r w1 ⟨rfl, h1, h2⟩; have HE := Lib.hid h1; have HS := Lib.hid h2; clear h1 h2)
    go_ret
    exact ⟨rfl, HE.out, one_trans HS2.out HS.out⟩
  · have h0' : decide (d.code < B) = false := by simpa using h0
    have hBc : (B : Int) ≤ (d.code : Int) := by omega
    have hBe : (B : Int) ≤ (d.size : Int) := by have := Hbd.out; have := HB.out; omega
    have hsz1 : (d.size : Int) < 4294967296 := by have := Hg.out.hi; omega
    have hk : ∀ n, DecAt (((w.drewN n).setCell ⟨p, 1, none⟩ (.int .u32 ((d.code : Int) - (B : Int)))).setCell ⟨p, 2, none⟩ (.int .u32 ((d.size : Int) - (B : Int)))) p { d with code := d.code - B, size := d.size - B } ∧
        Fr (one p) w (((w.drewN n).setCell ⟨p, 1, none⟩ (.int .u32 ((d.code : Int) - (B : Int)))).setCell ⟨p, 2, none⟩ (.int .u32 ((d.size : Int) - (B : Int)))) := fun n => by
      have h := (H.out.drewN n).set (d' := { d with code := d.code - B }) 1 (.int .u32 ((d.code : Int) - (B : Int))) (by simp; omega)
      have h2 := h.1.set (d' := { d with code := d.code - B, size := d.size - B }) 2 (.int .u32 ((d.size : Int) - (B : Int))) (by simp; omega)
      exact ⟨h2.1, one_trans ((Fr.refl _ _).drewN n) (one_trans h.2 h2.2)⟩
    have HK := Lib.hid hk
    have hbit : d.bit x = (1, ({ d with code := d.code - B, size := d.size - B } : Rc.D).widen) := by unfold Rc.D.bit; rw [HB.out, if_neg h0]
    rw [hbit]
    have hBn := Lib.hid h0
    clear h0 hk hbit
    go_enter Try.func28, Try.ntmps28
    go_wp2
    go_quiet (fail)
    go_upto_region 10 with fail
    obtain ⟨HE, HS⟩ := HK.out nq
    have hc1 := HS.cell_ hc hap
    have hf1 := HS.frozen_ hc hf hap
    have HE1 := Lib.hid HE
    have HS1 := Lib.hid HS
    clear HE HS HK d0 d1 d2 d3 d4 f1 f2 hc hf hwr h0'
    generalize ((w.drewN nq).setCell ⟨p, 1, none⟩ (.int .u32 ((d.code : Int) - (B : Int)))).setCell ⟨p, 2, none⟩ (.int .u32 ((d.size : Int) - (B : Int))) = W at *
    have hl := learn_is pb po x 1 (by have := Hx.out.2; omega) W hc1 hf1
    have Hl := Lib.hid hl
    have HE2 : Hid (DecAt (W.setCell ⟨pb, po, none⟩ (.int .u16 (Rc.learn x 1 : Nat))).drew p ({ d with code := d.code - B, size := d.size - B } : Rc.D)) := (HE1.out.far hap _).drew
    have HS2 : Hid (Fr (one p) (w.setCell ⟨pb, po, none⟩ (.int .u16 (Rc.learn x 1 : Nat))) (W.setCell ⟨pb, po, none⟩ (.int .u16 (Rc.learn x 1 : Nat))).drew) := (HS1.out.both ⟨pb, po, none⟩ _ hap).drew
    clear hl hc1 hf1
    go_upto_region 11 with (go_at_call 66; refine Hl.out.mono ?_; rintro r w1 ⟨rfl, hw⟩; rw [hw]; clear hw)
    clear Hl HE1 HS1
    generalize (W.setCell ⟨pb, po, none⟩ (.int .u16 (Rc.learn x 1 : Nat))).drew = W2 at *
    have hwd := dec_widen p ({ d with code := d.code - B, size := d.size - B } : Rc.D) W2 HE2.out Hg.out.len (by have := Hbd.out; have := HB.out; dsimp only; omega) (by have := Hbd.out; have := Hg.out.hi; have := HB.out; dsimp only; omega)
    have Hwd := Lib.hid hwd
    clear hwd
    go_wp2_with (go_at_call 70; refine Hwd.out.mono ?_; rintro r w1 ⟨rfl, h1, h2⟩; have HE := Lib.hid h1; have HS := Lib.hid h2; clear h1 h2)
    go_ret
    exact ⟨rfl, HE.out, one_trans HS2.out HS.out⟩
end Go.Proofs.Ytpddocehjljofaa
