/- Walks of layer 3 (rc): the encoder's steps. -/
import Derived.Test.YtpddocehjljofaaEnc
import Derived.Test.YtpddocehjljofaaRcO
namespace Go.Proofs.Ytpddocehjljofaa
set_option linter.unusedVariables false
open Go.RowKit Go.My

/-- What an encoder's numbers keep to. -/
structure EncB (e : Rc.E) (n : Nat) : Prop where
  low : e.low < 8589934592
  len : e.out.length + e.pend ≤ n

theorem shift_len (e : Rc.E) : e.shift.out.length + e.shift.pend = e.out.length + e.pend + 1 := by
  unfold Rc.E.shift
  split
  · simp [Rc.E.flush]; omega
  · simp; omega
theorem shift_low_lt (e : Rc.E) : e.shift.low < 4294967296 := by rw [Rc.E.shift_low]; omega

set_option maxHeartbeats 1000000 in
set_option maxRecDepth 100000 in
theorem enc_widen (p : Nat) (e : Rc.E) (v : Value) (w : World) (h : EncAt w p e v) (hb : EncB e 900000000) (h1 : 1 ≤ e.size) (h2 : e.size < 4294967296) :
    Calls Try.prog 63 #[.pointer (some ⟨p, 0, none⟩)] w fun r w' => r = .returned (.tuple #[]) ∧ ∃ v', EncAt w' p e.widen v' ∧ Step w w' (encFoot p v) (encFoot p v') := by
  have H := Lib.hid h
  have HB := Lib.hid hb
  have H1 := Lib.hid h1
  have H2 := Lib.hid h2
  clear h hb h1 h2
  go_enter Try.func63, Try.ntmps63
  go_wp2
  go_loopg [] 3 (fun n wr => ∃ (x : Rc.E) (v' : Value), n ≤ 3 ∧ Hid (x.widenN n = e.widen) ∧ Hid (1 ≤ x.size ∧ x.size < 4294967296 ∧ 16777216 ≤ x.size * 256 ^ n) ∧ Hid (EncB x (900000003 - n)) ∧ Hid (EncAt wr p x v') ∧ Hid (Step w wr (encFoot p v) (encFoot p v')))
  case atStart => exact ⟨e, v, Nat.le_refl _, rfl, ⟨H1.out, H2.out, by have := H1.out; omega⟩, HB.out, H.out, Step.refl _ _⟩
  case round =>
    obtain ⟨x, v', hn, hw, hx, hb, HE, HS⟩ := hrel
    clear H HB H1 H2
    obtain ⟨d0, d1, d2, d3, d4, fr2⟩ := HE.out.cells
    have f1 := fr2 1
    by_cases hlt : x.size < 16777216
    · obtain ⟨m, rfl⟩ : ∃ m, gk = m + 1 := ⟨gk - 1, by
        have := hx.out.2.2
        rcases gk with _ | m
        · simp at this; omega
        · rfl⟩
      have k1 := HE.out.set (e' := { x with size := x.size * 256 }) 1 (.int .u32 ((x.size : Int) * 256)) (by simp) rfl
      have hwr : IntKind.u32.wrap ((x.size : Int) * 256) = (x.size : Int) * 256 := IntWalk.u32_in _ (by omega)
      have hsh := enc_shift p { x with size := x.size * 256 } v' _ k1.1 hb.out.low (by have := hb.out.len; dsimp only; omega)
      have Hsh := Lib.hid hsh
      have HS1 : Hid _ := Lib.hid (HS.out.trans k1.2)
      have hw' : Hid ((({ x with size := x.size * 256 } : Rc.E).shift).widenN m = e.widen) := by
        have := hw.out
        unfold Rc.E.widenN at this
        rw [if_pos hlt] at this
        exact this
      have hx' : Hid (1 ≤ (({ x with size := x.size * 256 } : Rc.E).shift).size ∧ (({ x with size := x.size * 256 } : Rc.E).shift).size < 4294967296 ∧ 16777216 ≤ (({ x with size := x.size * 256 } : Rc.E).shift).size * 256 ^ m) := by
        rw [Rc.E.shift_size]
        dsimp only
        obtain ⟨q1, q2, q3⟩ := hx.out
        refine ⟨by omega, by omega, ?_⟩
        rw [Nat.pow_succ, Nat.mul_comm (256 ^ m), ← Nat.mul_assoc] at q3
        exact q3
      have hb' : Hid (EncB (({ x with size := x.size * 256 } : Rc.E).shift) (900000003 - m)) := by
        refine ⟨by have := shift_low_lt ({ x with size := x.size * 256 } : Rc.E); omega, ?_⟩
        rw [shift_len]
        have := hb.out.len
        dsimp only
        omega
      have hlt' : decide ((x.size : Int) < 16777216) = true := by simp; omega
      clear hsh k1 HE HS hw hx hb d0 d2 d3 d4 fr2 hlt
      go_wp2_with (go_at_call 68; refine Hsh.out.mono ?_; rintro r w1 ⟨rfl, v2, h1, h2⟩; have HE := Lib.hid h1; have HS : Hid _ := Lib.hid (HS1.out.trans h2); clear h1 h2)
      go_roundg m
      case rel => exact ⟨_, _, by omega, hw', hx', hb', HE, HS⟩
      case measure => omega
    · have hfin : x = e.widen := by
        have := hw.out
        rcases gk with _ | m
        · exact this
        · unfold Rc.E.widenN at this
          rw [if_neg hlt] at this
          exact this
      have Hfin := Lib.hid hfin
      have hlt' : decide ((x.size : Int) < 16777216) = false := by simp; omega
      clear hfin hw hx hb d0 d2 d3 d4 fr2 hlt
      go_wp2
      go_end0
      exact ⟨rfl, v', by rw [← Hfin.out]; exact HE.out, HS.out⟩

set_option maxHeartbeats 1000000 in
set_option maxRecDepth 100000 in
theorem learn_is (pb po : Nat) (x bit : Nat) (hx : x ≤ 2048) (w : World) (hc : w.cell? ⟨pb, po, none⟩ = some (.int .u16 (x : Int))) (hf : w.frozen? ⟨pb, po, none⟩ = false) :
    Calls Try.prog 66 #[.pointer (some ⟨pb, po, none⟩), .int .i64 (bit : Int)] w fun r w' => r = .returned (.tuple #[]) ∧ w' = (w.setCell ⟨pb, po, none⟩ (.int .u16 (Rc.learn x bit : Nat))).drew := by
  by_cases h0 : bit = 0
  · subst h0
    have e : ((Rc.learn x 0 : Nat) : Int) = (x : Int) + (2048 - (x : Int)) / 32 := by unfold Rc.learn; rw [if_pos rfl]; omega
    rw [e]
    clear e
    go_enter Try.func66, Try.ntmps66
    go_wp2
    go_region
    all_goals go_wp2
    all_goals go_end0
    all_goals exact ⟨rfl, rfl⟩
  · have e : ((Rc.learn x bit : Nat) : Int) = (x : Int) - (x : Int) / 32 := by unfold Rc.learn; rw [if_neg h0]; omega
    rw [e]
    have h0' : ((bit : Int) == 0) = false := by simp; omega
    clear e h0
    go_enter Try.func66, Try.ntmps66
    go_wp2
    go_region
    all_goals go_wp2
    all_goals go_end0
    all_goals exact ⟨rfl, rfl⟩

/-- What a bit leaves. -/
theorem EncAt.sub {w : World} {p : Nat} {e : Rc.E} {v : Value} (h : EncAt w p e v) (d R : Nat) :
    EncAt ((w.setCell ⟨p, 0, none⟩ (.int .u64 ((e.low : Int) + (d : Int)))).setCell ⟨p, 1, none⟩ (.int .u32 (R : Int))) p (e.sub d R) v ∧
      Step w ((w.setCell ⟨p, 0, none⟩ (.int .u64 ((e.low : Int) + (d : Int)))).setCell ⟨p, 1, none⟩ (.int .u32 (R : Int))) (encFoot p v) (encFoot p v) := by
  have k1 := h.set (e' := { e with low := e.low + d }) 0 (.int .u64 ((e.low : Int) + (d : Int))) (by simp) rfl
  have k2 := k1.1.set (e' := e.sub d R) 1 (.int .u32 (R : Int)) (by simp [Rc.E.sub]) rfl
  exact ⟨k2.1, k1.2.trans k2.2⟩
theorem EncAt.resize {w : World} {p : Nat} {e : Rc.E} {v : Value} (h : EncAt w p e v) (R : Nat) :
    EncAt (w.setCell ⟨p, 1, none⟩ (.int .u32 (R : Int))) p (e.sub 0 R) v ∧ Step w (w.setCell ⟨p, 1, none⟩ (.int .u32 (R : Int))) (encFoot p v) (encFoot p v) :=
  h.set (e' := e.sub 0 R) 1 (.int .u32 (R : Int)) (by simp [Rc.E.sub]) rfl

/-- Where an encoder and a cell outside of it stand, a store into the cell leaves the encoder. -/
theorem EncAt.far {w : World} {p : Nat} {e : Rc.E} {v : Value} (h : EncAt w p e v) {q : Addr} (hq : ¬ encFoot p v q.block) (u : Value) : EncAt (w.setCell q u) p e v :=
  h.keep (S := fun k => k = q.block) ((Fr.refl _ _).setCell _ _ (.inl rfl)) (fun k hk e => hq (e ▸ hk))

set_option maxHeartbeats 1000000 in
set_option maxRecDepth 100000 in
theorem enc_bit (p : Nat) (e : Rc.E) (v : Value) (pb po x bit : Nat) (w : World) (h : EncAt w p e v) (hb : e.out.length + e.pend ≤ 900000000) (hlow : e.low + e.size ≤ 8589934592) (hs1 : 16777216 ≤ e.size) (hs2 : e.size < 4294967296) (hx : Rc.PrOk x)
    (hc : w.cell? ⟨pb, po, none⟩ = some (.int .u16 (x : Int))) (hf : w.frozen? ⟨pb, po, none⟩ = false) (hap : ¬ encFoot p v pb) :
    Calls Try.prog 20 #[.pointer (some ⟨p, 0, none⟩), .pointer (some ⟨pb, po, none⟩), .int .i64 (bit : Int)] w fun r w' => r = .returned (.tuple #[]) ∧
      ∃ v', EncAt w' p (e.bit x bit) v' ∧ Step (w.setCell ⟨pb, po, none⟩ (.int .u16 (Rc.learn x bit : Nat))) w' (encFoot p v) (encFoot p v') := by
  have hbd := Rc.bound_in hs1 hx
  have hx0 : 0 ≤ (x : Int) := by omega
  have hx1 : (x : Int) ≤ 2048 := by have := hx.2; omega
  have hwr : IntKind.u32.wrap ((e.size : Int) / 2048 * (x : Int)) = ((Rc.bound e.size x : Nat) : Int) := by
    have e1 : ((Rc.bound e.size x : Nat) : Int) = (e.size : Int) / 2048 * (x : Int) := by unfold Rc.bound; simp
    rw [← e1]
    exact IntWalk.u32_in _ (by omega)
  have hsz0 : 0 ≤ (e.size : Int) := by omega
  obtain ⟨d0, d1, d2, d3, d4, fr⟩ := h.cells
  have hpb : pb ≠ p := fun q => hap (.inl q)
  have f0 := fr 0
  have f1 := fr 1
  have H := Lib.hid h
  have Hap := Lib.hid hap
  have Hbd := Lib.hid hbd
  have Hs2 := Lib.hid hs2
  have Hlow := Lib.hid hlow
  have Hb := Lib.hid hb
  have Hx := Lib.hid hx
  obtain ⟨B, hB⟩ : ∃ B, Rc.bound e.size x = B := ⟨_, rfl⟩
  rw [hB] at hwr
  have HB := Lib.hid hB
  clear h hap hbd hs1 hs2 hlow hb hx hB fr
  by_cases h0 : bit = 0
  · have h0' : ((bit : Int) == 0) = true := by simp [h0]
    have hk : ∀ n, EncAt ((w.drewN n).setCell ⟨p, 1, none⟩ (.int .u32 (B : Int))) p (e.sub 0 B) v ∧ Step w ((w.drewN n).setCell ⟨p, 1, none⟩ (.int .u32 (B : Int))) (encFoot p v) (encFoot p v) := fun n =>
      ⟨((H.out.drewN n).resize B).1, ((Step.refl _ _).drewN n).trans ((H.out.drewN n).resize B).2⟩
    have HK := Lib.hid hk
    have hbit : e.bit x bit = (e.sub 0 B).widen := by unfold Rc.E.bit; rw [if_pos h0, HB.out]
    have Hbit := Lib.hid hbit
    clear h0 hk hbit
    go_enter Try.func20, Try.ntmps20
    go_wp2
    go_quiet (fail)
    go_upto_region 6 with fail
    obtain ⟨HE, HS⟩ := HK.out nq
    have hc1 := HS.fr.cell_ hc Hap.out
    have hf1 := HS.fr.frozen_ hc hf Hap.out
    have HE1 := Lib.hid HE
    have HS1 := Lib.hid HS
    clear HE HS HK d0 d1 d2 d3 d4 f0 f1 hc hf hwr h0'
    generalize (w.drewN nq).setCell ⟨p, 1, none⟩ (.int .u32 (B : Int)) = W at *
    have hl := learn_is pb po x bit (by have := Hx.out.2; omega) W hc1 hf1
    have Hl := Lib.hid hl
    have HE2 : Hid (EncAt (W.setCell ⟨pb, po, none⟩ (.int .u16 (Rc.learn x bit : Nat))).drew p (e.sub 0 B) v) := (HE1.out.far Hap.out _).drew
    have HS2 : Hid (Step (w.setCell ⟨pb, po, none⟩ (.int .u16 (Rc.learn x bit : Nat))) (W.setCell ⟨pb, po, none⟩ (.int .u16 (Rc.learn x bit : Nat))).drew (encFoot p v) (encFoot p v)) := (HS1.out.both ⟨pb, po, none⟩ _ Hap.out).drew
    clear hl hc1 hf1
    go_upto_region 7 with (go_at_call 66; refine Hl.out.mono ?_; rintro r w1 ⟨rfl, hw⟩; rw [hw]; clear hw)
    clear Hl HE1 HS1
    generalize (W.setCell ⟨pb, po, none⟩ (.int .u16 (Rc.learn x bit : Nat))).drew = W2 at *
    have hwd := enc_widen p (e.sub 0 B) v W2 HE2.out ⟨by have := Hlow.out; have := Hbd.out; have := HB.out; simp only [Rc.E.sub]; omega, Hb.out⟩ (by have := Hbd.out; have := HB.out; simp only [Rc.E.sub]; omega) (by have := Hbd.out; have := Hs2.out; have := HB.out; simp only [Rc.E.sub]; omega)
    have Hwd := Lib.hid hwd
    clear hwd
    go_wp2_with (go_at_call 63; refine Hwd.out.mono ?_; rintro r w1 ⟨rfl, v2, h1, h2⟩; have HE := Lib.hid h1; have HS := Lib.hid h2; clear h1 h2)
    go_end0
    exact ⟨rfl, v2, by rw [Hbit.out]; exact HE.out, HS2.out.trans HS.out⟩
  · have h0' : ((bit : Int) == 0) = false := by simp; omega
    have hBe : (B : Int) ≤ (e.size : Int) := by have := Hbd.out; have := HB.out; omega
    have hk : ∀ n, EncAt (((w.drewN n).setCell ⟨p, 0, none⟩ (.int .u64 ((e.low : Int) + (B : Int)))).setCell ⟨p, 1, none⟩ (.int .u32 ((e.size : Int) - (B : Int)))) p (e.sub B (e.size - B)) v ∧ Step w (((w.drewN n).setCell ⟨p, 0, none⟩ (.int .u64 ((e.low : Int) + (B : Int)))).setCell ⟨p, 1, none⟩ (.int .u32 ((e.size : Int) - (B : Int)))) (encFoot p v) (encFoot p v) := fun n => by
      have h := (H.out.drewN n).sub B (e.size - B)
      rw [show ((e.size - B : Nat) : Int) = (e.size : Int) - (B : Int) by omega] at h
      exact ⟨h.1, ((Step.refl _ _).drewN n).trans h.2⟩
    have HK := Lib.hid hk
    have hbit : e.bit x bit = (e.sub B (e.size - B)).widen := by unfold Rc.E.bit; rw [if_neg h0, HB.out]
    have Hbit := Lib.hid hbit
    have hw64 : IntKind.u64.wrap ((e.low : Int) + (B : Int)) = (e.low : Int) + (B : Int) := IntWalk.u64_in _ (by have := Hlow.out; have := Hbd.out; omega)
    have hw32 : IntKind.u32.wrap ((e.size : Int) - (B : Int)) = (e.size : Int) - (B : Int) := IntWalk.u32_in _ (by have := Hs2.out; omega)
    have hB32 : (B : Int) < 4294967296 := by have := Hs2.out; omega
    have hlow2 : (e.low : Int) + (e.size : Int) ≤ 8589934592 := by have := Hlow.out; omega
    clear h0 hk hbit
    go_enter Try.func20, Try.ntmps20
    go_wp2
    go_quiet (fail)
    go_upto_region 6 with fail
    clear hw64 hw32
    obtain ⟨HE, HS⟩ := HK.out nq
    have hc1 := HS.fr.cell_ hc Hap.out
    have hf1 := HS.fr.frozen_ hc hf Hap.out
    have HE1 := Lib.hid HE
    have HS1 := Lib.hid HS
    clear HE HS HK d0 d1 d2 d3 d4 f0 f1 hc hf hwr h0'
    generalize ((w.drewN nq).setCell ⟨p, 0, none⟩ (.int .u64 ((e.low : Int) + (B : Int)))).setCell ⟨p, 1, none⟩ (.int .u32 ((e.size : Int) - (B : Int))) = W at *
    have hl := learn_is pb po x bit (by have := Hx.out.2; omega) W hc1 hf1
    have Hl := Lib.hid hl
    have HE2 : Hid (EncAt (W.setCell ⟨pb, po, none⟩ (.int .u16 (Rc.learn x bit : Nat))).drew p (e.sub B (e.size - B)) v) := (HE1.out.far Hap.out _).drew
    have HS2 : Hid (Step (w.setCell ⟨pb, po, none⟩ (.int .u16 (Rc.learn x bit : Nat))) (W.setCell ⟨pb, po, none⟩ (.int .u16 (Rc.learn x bit : Nat))).drew (encFoot p v) (encFoot p v)) := (HS1.out.both ⟨pb, po, none⟩ _ Hap.out).drew
    clear hl hc1 hf1
    go_upto_region 7 with (go_at_call 66; refine Hl.out.mono ?_; rintro r w1 ⟨rfl, hw⟩; rw [hw]; clear hw)
    clear Hl HE1 HS1
    generalize (W.setCell ⟨pb, po, none⟩ (.int .u16 (Rc.learn x bit : Nat))).drew = W2 at *
    have hwd := enc_widen p (e.sub B (e.size - B)) v W2 HE2.out ⟨by have := Hlow.out; have := Hbd.out; have := HB.out; simp only [Rc.E.sub]; omega, Hb.out⟩ (by have := Hbd.out; have := HB.out; simp only [Rc.E.sub]; omega) (by have := Hbd.out; have := Hs2.out; have := HB.out; simp only [Rc.E.sub]; omega)
    have Hwd := Lib.hid hwd
    clear hwd
    go_wp2_with (go_at_call 63; refine Hwd.out.mono ?_; rintro r w1 ⟨rfl, v2, h1, h2⟩; have HE := Lib.hid h1; have HS := Lib.hid h2; clear h1 h2)
    go_end0
    exact ⟨rfl, v2, by rw [Hbit.out]; exact HE.out, HS2.out.trans HS.out⟩
end Go.Proofs.Ytpddocehjljofaa
