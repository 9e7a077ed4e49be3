/- Walks of layer 3 (rc): the decoder's steps. -/
import Derived.Test.YtopnnbhiehljlaaDec
import Derived.Test.YtopnnbhiehljlaaEnc3
namespace Go.Proofs.Ytopnnbhiehljlaa
set_option linter.unusedVariables false
open Go.RowKit Go.My

/-- A decoder whose range is as large as it is between two steps. -/
structure DecG (d : Rc.D) : Prop where
  lo : 16777216 ≤ d.size
  hi : d.size < 4294967296
  code : d.code < 4294967296
  len : d.rest.length ≤ 1000000000
  part : d.part < 4294967296

theorem dwidenN_part (d : Rc.D) (n : Nat) : (d.widenN n).part = d.part ∧ (d.widenN n).rest.length ≤ d.rest.length := by
  induction n generalizing d with
  | zero => exact ⟨rfl, Nat.le_refl _⟩
  | succ n ih =>
    unfold Rc.D.widenN
    split
    · have h := ih ({ d with size := d.size * 256 } : Rc.D).pull
      have h2 := next_code ({ d with size := d.size * 256 } : Rc.D)
      have h3 := pull_size ({ d with size := d.size * 256 } : Rc.D)
      refine ⟨h.1.trans h2.2.2.1, Nat.le_trans h.2 h3.2.1⟩
    · exact ⟨rfl, Nat.le_refl _⟩
theorem dwidenN_code (d : Rc.D) (n : Nat) (h : d.code < 4294967296) : (d.widenN n).code < 4294967296 := by
  induction n generalizing d with
  | zero => exact h
  | succ n ih =>
    unfold Rc.D.widenN
    split
    · exact ih _ (pull_size _).2.2
    · exact h
theorem dwiden_size (d : Rc.D) (h1 : 1 ≤ d.size) (h2 : d.size < 4294967296) : 16777216 ≤ d.widen.size ∧ d.widen.size < 4294967296 := by
  have key : ∀ (n : Nat) (d : Rc.D), 1 ≤ d.size → d.size < 4294967296 → 16777216 ≤ d.size * 256 ^ n → 16777216 ≤ (d.widenN n).size ∧ (d.widenN n).size < 4294967296 := by
    intro n
    induction n with
    | zero => intro d _ h2 h3; simp at h3; exact ⟨h3, h2⟩
    | succ n ih =>
      intro d h1 h2 h3
      unfold Rc.D.widenN
      split
      · next hs =>
        refine ih _ ?_ ?_ ?_ <;> rw [(pull_size _).1] <;> dsimp only
        · omega
        · omega
        · rw [Nat.pow_succ, Nat.mul_comm (256 ^ n), ← Nat.mul_assoc] at h3; exact h3
      · next hs => exact ⟨by omega, h2⟩
  exact key 3 d h1 h2 (by omega)
theorem DecG.widen {d : Rc.D} (h1 : 1 ≤ d.size) (h2 : d.size < 4294967296) (hc : d.code < 4294967296) (hl : d.rest.length ≤ 1000000000) (hp : d.part < 4294967296) : DecG d.widen := by
  have hs := dwiden_size d h1 h2
  have hk := dwidenN_part d 3
  exact ⟨hs.1, hs.2, dwidenN_code d 3 hc, Nat.le_trans hk.2 hl, by show (d.widenN 3).part < _; rw [hk.1]; exact hp⟩
theorem DecG.bit {d : Rc.D} (h : DecG d) {x : Nat} (hx : Rc.PrOk x) : DecG (d.bit x).2 := by
  have hb := Rc.bound_in h.lo hx
  have := h.hi
  have hc := h.code
  unfold Rc.D.bit
  split
  · exact DecG.widen hb.1 (by show Rc.bound _ _ < _; omega) hc h.len h.part
  · exact DecG.widen (by show 1 ≤ d.size - _; omega) (by show d.size - _ < _; omega) (by show d.code - _ < _; omega) h.len h.part
theorem DecG.direct {d : Rc.D} (h : DecG d) : DecG d.direct.2 := by
  have := h.hi
  have := h.lo
  have hc := h.code
  unfold Rc.D.direct
  split
  · exact DecG.widen (by show 1 ≤ d.size / 2; omega) (by show d.size / 2 < _; omega) hc h.len h.part
  · exact DecG.widen (by show 1 ≤ d.size / 2; omega) (by show d.size / 2 < _; omega) (by show d.code - _ < _; omega) h.len h.part

end Go.Proofs.Ytopnnbhiehljlaa
