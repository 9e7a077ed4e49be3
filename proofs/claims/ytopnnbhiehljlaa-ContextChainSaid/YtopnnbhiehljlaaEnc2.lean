/- Walks of layer 3 (rc): the encoder's steps. -/
import Derived.Test.YtopnnbhiehljlaaEnc
import Derived.Test.YtopnnbhiehljlaaRcO
namespace Go.Proofs.Ytopnnbhiehljlaa
set_option linter.unusedVariables false
open Go.RowKit Go.My

/-- What an encoder's numbers keep to. -/
structure EncB (e : Rc.E) (n : Nat) : Prop where
  low : e.low < 8589934592
  len : e.out.length + e.pend ≤ n

theorem shift_len (e : Rc.E) : e.shift.out.length + e.shift.pend = e.out.length + e.pend + 1 := by
  unfold Rc.E.shift
  split
  · simp [Rc.E.flush]; omega
  · simp; omega
theorem shift_low_lt (e : Rc.E) : e.shift.low < 4294967296 := by rw [Rc.E.shift_low]; omega

set_option maxHeartbeats 1000000 in
set_option maxRecDepth 100000 in
theorem enc_widen (p : Nat) (e : Rc.E) (v : Value) (w : World) (h : EncAt w p e v) (hb : EncB e 900000000) (h1 : 1 ≤ e.size) (h2 : e.size < 4294967296) :
    Calls Try.prog 72 #[.pointer (some ⟨p, 0, none⟩)] w fun r w' => r = .returned (.tuple #[]) ∧ ∃ v', EncAt w' p e.widen v' ∧ Step w w' (encFoot p v) (encFoot p v') := by
  have H := Lib.hid h
  have HB := Lib.hid hb
  have H1 := Lib.hid h1
  have H2 := Lib.hid h2
  clear h hb h1 h2
  go_enter Try.func72, Try.ntmps72
  go_wp2
  go_loopg [] 3 (fun n wr => ∃ (x : Rc.E) (v' : Value), n ≤ 3 ∧ Hid (x.widenN n = e.widen) ∧ Hid (1 ≤ x.size ∧ x.size < 4294967296 ∧ 16777216 ≤ x.size * 256 ^ n) ∧ Hid (EncB x (900000003 - n)) ∧ Hid (EncAt wr p x v') ∧ Hid (Step w wr (encFoot p v) (encFoot p v')))
  case atStart => exact ⟨e, v, Nat.le_refl _, rfl, ⟨H1.out, H2.out, by have := H1.out; omega⟩, HB.out, H.out, Step.refl _ _⟩
  case round =>
    obtain ⟨x, v', hn, hw, hx, hb, HE, HS⟩ := hrel
    clear H HB H1 H2
    obtain ⟨d0, d1, d2, d3, d4, fr2⟩ := HE.out.cells
    have f1 := fr2 1
    by_cases hlt : x.size < 16777216
    · obtain ⟨m, rfl⟩ : ∃ m, gk = m + 1 := ⟨gk - 1, by
        have := hx.out.2.2
        rcases gk with _ | m
        · simp at this; omega
        · rfl⟩
      have k1 := HE.out.set (e' := { x with size := x.size * 256 }) 1 (.int .u32 ((x.size : Int) * 256)) (by simp) rfl
      have hwr : IntKind.u32.wrap ((x.size : Int) * 256) = (x.size : Int) * 256 := IntWalk.u32_in _ (by omega)
      have hsh := enc_shift p { x with size := x.size * 256 } v' _ k1.1 hb.out.low (by have := hb.out.len; dsimp only; omega)
      have Hsh := Lib.hid hsh
      have HS1 : Hid _ := Lib.hid (HS.out.trans k1.2)
      have hw' : Hid ((({ x with size := x.size * 256 } : Rc.E).shift).widenN m = e.widen) := by
        have := hw.out
        unfold Rc.E.widenN at this
        rw [if_pos hlt] at this
        exact this
      have hx' : Hid (1 ≤ (({ x with size := x.size * 256 } : Rc.E).shift).size ∧ (({ x with size := x.size * 256 } : Rc.E).shift).size < 4294967296 ∧ 16777216 ≤ (({ x with size := x.size * 256 } : Rc.E).shift).size * 256 ^ m) := by
        rw [Rc.E.shift_size]
        dsimp only
        obtain ⟨q1, q2, q3⟩ := hx.out
        refine ⟨by omega, by omega, ?_⟩
        rw [Nat.pow_succ, Nat.mul_comm (256 ^ m), ← Nat.mul_assoc] at q3
        exact q3
      have hb' : Hid (EncB (({ x with size := x.size * 256 } : Rc.E).shift) (900000003 - m)) := by
        refine ⟨by have := shift_low_lt ({ x with size := x.size * 256 } : Rc.E); omega, ?_⟩
        rw [shift_len]
        have := hb.out.len
        dsimp only
        omega
      have hlt' : decide ((x.size : Int) < 16777216) = true := by simp; omega
      clear hsh k1 HE HS hw hx hb d0 d2 d3 d4 fr2 hlt
      go_wp2_with (go_at_call 57; refine Hsh.out.mono ?_; rintro r w1 ⟨rfl, v2, h1, h2⟩; have HE := Lib.hid h1; have HS : Hid _ := Lib.hid (HS1.out.trans h2); clear h1 h2)
      go_roundg m
      case rel => exact ⟨_, _, by omega, hw', hx', hb', HE, HS⟩
      case measure => omega
    · have hfin : x = e.widen := by
        have := hw.out
        rcases gk with _ | m
        · exact this
        · unfold Rc.E.widenN at this
          rw [if_neg hlt] at this
          exact this
      have Hfin := Lib.hid hfin
      have hlt' : decide ((x.size : Int) < 16777216) = false := by simp; omega
      clear hfin hw hx hb d0 d2 d3 d4 fr2 hlt
      go_wp2
      go_end0
      exact ⟨rfl, v', by rw [← Hfin.out]; exact HE.out, HS.out⟩

/-- What a bit leaves. -/
theorem EncAt.sub {w : World} {p : Nat} {e : Rc.E} {v : Value} (h : EncAt w p e v) (d R : Nat) :
    EncAt ((w.setCell ⟨p, 0, none⟩ (.int .u64 ((e.low : Int) + (d : Int)))).setCell ⟨p, 1, none⟩ (.int .u32 (R : Int))) p (e.sub d R) v ∧
      Step w ((w.setCell ⟨p, 0, none⟩ (.int .u64 ((e.low : Int) + (d : Int)))).setCell ⟨p, 1, none⟩ (.int .u32 (R : Int))) (encFoot p v) (encFoot p v) := by
  have k1 := h.set (e' := { e with low := e.low + d }) 0 (.int .u64 ((e.low : Int) + (d : Int))) (by simp) rfl
  have k2 := k1.1.set (e' := e.sub d R) 1 (.int .u32 (R : Int)) (by simp [Rc.E.sub]) rfl
  exact ⟨k2.1, k1.2.trans k2.2⟩
theorem EncAt.resize {w : World} {p : Nat} {e : Rc.E} {v : Value} (h : EncAt w p e v) (R : Nat) :
    EncAt (w.setCell ⟨p, 1, none⟩ (.int .u32 (R : Int))) p (e.sub 0 R) v ∧ Step w (w.setCell ⟨p, 1, none⟩ (.int .u32 (R : Int))) (encFoot p v) (encFoot p v) :=
  h.set (e' := e.sub 0 R) 1 (.int .u32 (R : Int)) (by simp [Rc.E.sub]) rfl

/-- Where an encoder and a cell outside of it stand, a store into the cell leaves the encoder. -/
theorem EncAt.far {w : World} {p : Nat} {e : Rc.E} {v : Value} (h : EncAt w p e v) {q : Addr} (hq : ¬ encFoot p v q.block) (u : Value) : EncAt (w.setCell q u) p e v :=
  h.keep (S := fun k => k = q.block) ((Fr.refl _ _).setCell _ _ (.inl rfl)) (fun k hk e => hq (e ▸ hk))

end Go.Proofs.Ytopnnbhiehljlaa
