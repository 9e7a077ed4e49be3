/- The plain law of layer 07 (chain): the chain tells the candidates. -/
import Derived.Test.YtjdmkffhhlijnaaChM
namespace Go.Ch
set_option linter.unusedVariables false
/-- K is the next candidate's place behind m back; or there is none. -/
def NextK (l : List UInt8) (i m : Nat) (K : Int) : Prop :=
  (K = -1 ∧ ∀ d, m < d → d ≤ i → cand l i d = false) ∨ (∃ q : Nat, K = (q : Int) ∧ q < i ∧ m < i - q ∧ cand l i (i - q) = true ∧ ∀ d, m < d → d < i - q → cand l i d = false)
theorem cand_no {l : List UInt8} {i d : Nat} (h : tri l (i - d) ≠ tri l i) : cand l i d = false := by
  unfold cand
  have : decide (tri l i = tri l (i - d)) = false := by simpa using fun e => h e.symm
  rw [this]; simp
theorem nextK_start (l : List UInt8) (i : Nat) : NextK l i 0 (prv l i) := by
  unfold prv
  by_cases h3 : i + 3 ≤ l.length
  · rw [if_pos h3]
    rcases prvN_spec l i i with ⟨h1, h2⟩ | ⟨p, h1, h2, h4, h5⟩
    · exact .inl ⟨h1, fun d hd hi => cand_no (h2 (i - d) (by omega))⟩
    · refine .inr ⟨p, h1, h2, by omega, ?_, fun d hd hi => cand_no (h5 (i - d) (by omega) (by omega))⟩
      unfold cand
      rw [show i - (i - p) = p by omega, h4]
      simp [h3]
  · rw [if_neg h3]
    exact .inl ⟨rfl, fun d _ _ => by unfold cand; simp; intro h; omega⟩
theorem cand_tri {l : List UInt8} {i d : Nat} (h : cand l i d = true) : i + 3 ≤ l.length ∧ tri l i = tri l (i - d) := by
  unfold cand at h
  simpa using h
theorem nextK_step (l : List UInt8) (i q : Nat) (hq : q < i) (hc : cand l i (i - q) = true) : NextK l i (i - q) (prv l q) := by
  obtain ⟨h3, ht⟩ := cand_tri hc
  rw [show i - (i - q) = q by omega] at ht
  unfold prv
  rw [if_pos (by omega)]
  rcases prvN_spec l q q with ⟨h1, h2⟩ | ⟨p, h1, h2, h4, h5⟩
  · exact .inl ⟨h1, fun d hd hi => cand_no (by rw [ht]; exact h2 (i - d) (by omega))⟩
  · refine .inr ⟨p, h1, by omega, by omega, ?_, fun d hd hi => cand_no (by rw [ht]; exact h5 (i - d) (by omega) (by omega))⟩
    unfold cand
    rw [show i - (i - p) = p by omega, h4, ht]
    simp [h3]
theorem lim_le (i : Nat) (window : Int) : lim i window ≤ i ∧ ((lim i window : Nat) : Int) ≤ max window 0 := by unfold lim; omega
theorem hst_to (l : List UInt8) (i : Nat) (cut : Int) (m m' : Nat) (hm : m ≤ m') (h : ∀ d, m < d → d ≤ m' → cand l i d = false) : hst l i cut m' = hst l i cut m := by
  have := hst_skip l i cut m (m' - m) (fun d h1 h2 => h d h1 (by omega))
  rwa [show m + (m' - m) = m' by omega] at this
/-- What a round leaves. -/
theorem hst_round (l : List UInt8) (i q : Nat) (cut : Int) (m : Nat) (hm : m < i - q) (hc : cand l i (i - q) = true) (hn : ∀ d, m < d → d < i - q → cand l i d = false) (hs : ((hst l i cut m).seen : Int) < cut) :
    hst l i cut (i - q) = stepH l i (i - q) (hst l i cut m) := by
  have e := hst_to l i cut m (i - q - 1) (by omega) (fun d h1 h2 => hn d h1 (by omega))
  obtain ⟨k, hk⟩ : ∃ k, i - q = k + 1 := ⟨i - q - 1, by omega⟩
  rw [hk] at hc ⊢
  rw [hk, Nat.add_sub_cancel] at e
  show (if cand l i (k + 1) = true ∧ ((hst l i cut k).seen : Int) < cut then _ else _) = _
  rw [e, if_pos ⟨hc, hs⟩]
theorem hst_end (l : List UInt8) (i : Nat) (window cut : Int) (m : Nat) (K : Int) (hK : NextK l i m K) (hm : m ≤ lim i window) (hx : K = -1 ∨ window < (i : Int) - K ∨ ¬ ((hst l i cut m).seen : Int) < cut) : hst l i cut m = hst l i cut (lim i window) := by
  rcases hx with hx | hx | hx
  · rcases hK with ⟨_, h⟩ | ⟨q, h1, _⟩
    · exact (hst_to l i cut m _ hm (fun d h1 h2 => h d h1 (by have := (lim_le i window).1; omega))).symm
    · omega
  · rcases hK with ⟨_, h⟩ | ⟨q, h1, h2, h3, _, h5⟩
    · exact (hst_to l i cut m _ hm (fun d h1 h2 => h d h1 (by have := (lim_le i window).1; omega))).symm
    · exact (hst_to l i cut m _ hm (fun d ha hb => h5 d ha (by have := (lim_le i window).2; omega))).symm
  · have := hst_cut l i cut m hx (lim i window - m)
    rw [show m + (lim i window - m) = lim i window by omega] at this
    exact this.symm
theorem stepH_len (l : List UInt8) (i d : Nat) (h : HS) : (stepH l i d h).out.length ≤ h.out.length + 1 ∧ (stepH l i d h).seen = h.seen + 1 := by
  unfold stepH
  split
  · simp
  · simp
theorem hst_len (l : List UInt8) (i : Nat) (cut : Int) : ∀ m, (hst l i cut m).out.length ≤ m ∧ (hst l i cut m).seen ≤ m := by
  intro m
  induction m with
  | zero => exact ⟨Nat.le_refl _, Nat.le_refl _⟩
  | succ m ih =>
    show (if cand l i (m + 1) = true ∧ ((hst l i cut m).seen : Int) < cut then stepH l i (m + 1) (hst l i cut m) else hst l i cut m).out.length ≤ m + 1 ∧ (if cand l i (m + 1) = true ∧ ((hst l i cut m).seen : Int) < cut then stepH l i (m + 1) (hst l i cut m) else hst l i cut m).seen ≤ m + 1
    split
    · have := stepH_len l i (m + 1) (hst l i cut m); omega
    · omega
theorem hst_best (l : List UInt8) (i : Nat) (cut : Int) : ∀ m, (hst l i cut m).best ≤ 273 := by
  intro m
  induction m with
  | zero => exact Nat.zero_le _
  | succ m ih =>
    show (if cand l i (m + 1) = true ∧ ((hst l i cut m).seen : Int) < cut then stepH l i (m + 1) (hst l i cut m) else hst l i cut m).best ≤ 273
    split
    · unfold stepH
      split
      · have := alike_le l (i - (m + 1)) i
        unfold most at this
        show alike l (i - (m + 1)) i ≤ 273
        omega
      · exact ih
    · exact ih
end Go.Ch
