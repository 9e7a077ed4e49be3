/- The plain law of layer 07 (chain): what is found rises, and is there. -/
import Derived.Test.YtjdmkffhhlijnaaChN
namespace Go.Ch
set_option linter.unusedVariables false
structure Good (l : List UInt8) (i : Nat) (h : HS) (m : Nat) : Prop where
  each : ∀ x ∈ h.out, 3 ≤ x.1 ∧ x.1 ≤ l.length - i ∧ x.1 ≤ 273 ∧ 1 ≤ x.2 ∧ x.2 ≤ m ∧ x.1 ≤ h.best ∧ ∀ j, j < x.1 → l.getD (i - x.2 + j) 0 = l.getD (i + j) 0
  rise : h.out.Pairwise (fun a b => a.1 < b.1 ∧ a.2 < b.2)
theorem alike_three (l : List UInt8) (i d : Nat) (hc : cand l i d = true) : 3 ≤ alike l (i - d) i := by
  obtain ⟨h3, ht⟩ := cand_tri hc
  unfold tri at ht
  simp only [List.cons.injEq, and_true] at ht
  obtain ⟨e0, e1, e2⟩ := ht
  have hm : 3 ≤ most l i := by unfold most; omega
  rcases alk_ge l (i - d) i 3 (most l i) 0 (by omega) (fun j _ h2 => by
    match j, h2 with
    | 0, _ => simpa using e0.symm
    | 1, _ => exact e1.symm
    | 2, _ => exact e2.symm) with h | h
  · exact h
  · omega
theorem good (l : List UInt8) (i : Nat) (cut : Int) : ∀ m, Good l i (hst l i cut m) m := by
  intro m
  induction m with
  | zero => exact ⟨fun x hx => absurd hx (by simp [hst]), List.Pairwise.nil⟩
  | succ m ih =>
    have mono : Good l i (hst l i cut m) (m + 1) := ⟨fun x hx => by
      obtain ⟨h1, h2, h3, h4, h5, h6, h7⟩ := ih.each x hx
      exact ⟨h1, h2, h3, h4, by omega, h6, h7⟩, ih.rise⟩
    show Good l i (if cand l i (m + 1) = true ∧ ((hst l i cut m).seen : Int) < cut then stepH l i (m + 1) (hst l i cut m) else hst l i cut m) (m + 1)
    split
    · rename_i hc
      unfold stepH
      split
      · rename_i hb
        have ht := alike_three l i (m + 1) hc.1
        have hl := alike_le l (i - (m + 1)) i
        unfold most at hl
        refine ⟨fun x hx => ?_, ?_⟩
        · rcases List.mem_append.1 hx with h | h
          · obtain ⟨h1, h2, h3, h4, h5, h6, h7⟩ := ih.each x h
            exact ⟨h1, h2, h3, h4, by omega, by show x.1 ≤ alike l (i - (m + 1)) i; omega, h7⟩
          · obtain rfl := List.mem_singleton.1 h
            exact ⟨ht, by show alike l (i - (m + 1)) i ≤ _; omega, by show alike l (i - (m + 1)) i ≤ _; omega, by show 1 ≤ m + 1; omega, Nat.le_refl _, Nat.le_refl _, fun j hj => alk_same l (i - (m + 1)) i _ 0 j (Nat.zero_le _) hj⟩
        · refine List.pairwise_append.2 ⟨ih.rise, List.pairwise_singleton _ _, fun a ha b hb2 => ?_⟩
          obtain rfl := List.mem_singleton.1 hb2
          obtain ⟨h1, h2, h3, h4, h5, h6, h7⟩ := ih.each a ha
          exact ⟨by show a.1 < alike l (i - (m + 1)) i; omega, by show a.2 < m + 1; omega⟩
      · exact ⟨mono.each, mono.rise⟩
    · exact mono
theorem seen_cut (l : List UInt8) (i : Nat) (cut : Int) (hc : 0 ≤ cut) : ∀ m, ((hst l i cut m).out.length : Int) ≤ (hst l i cut m).seen ∧ ((hst l i cut m).seen : Int) ≤ cut := by
  intro m
  induction m with
  | zero => exact ⟨Int.le_refl _, hc⟩
  | succ m ih =>
    show ((if cand l i (m + 1) = true ∧ ((hst l i cut m).seen : Int) < cut then stepH l i (m + 1) (hst l i cut m) else hst l i cut m).out.length : Int) ≤ (if cand l i (m + 1) = true ∧ ((hst l i cut m).seen : Int) < cut then stepH l i (m + 1) (hst l i cut m) else hst l i cut m).seen ∧ ((if cand l i (m + 1) = true ∧ ((hst l i cut m).seen : Int) < cut then stepH l i (m + 1) (hst l i cut m) else hst l i cut m).seen : Int) ≤ cut
    split
    · rename_i h
      have := stepH_len l i (m + 1) (hst l i cut m)
      omega
    · exact ih
/-- What the law asks of what is found at a place. -/
theorem found_ok (l : List UInt8) (i : Nat) (win cut : Int) (hw : 0 ≤ win) (hc : 0 ≤ cut) (k : Nat) (hk : k < (foundL l i win cut).length) :
    3 ≤ ((foundL l i win cut)[k]).1 ∧ ((foundL l i win cut)[k]).1 ≤ l.length - i ∧ ((foundL l i win cut)[k]).1 ≤ 273 ∧ 1 ≤ ((foundL l i win cut)[k]).2 ∧ ((foundL l i win cut)[k]).2 ≤ i ∧ (((foundL l i win cut)[k]).2 : Int) ≤ win ∧
      (∀ j, j < ((foundL l i win cut)[k]).1 → l.getD (i - ((foundL l i win cut)[k]).2 + j) 0 = l.getD (i + j) 0) ∧
      (∀ (k' : Nat) (e : k = k' + 1), ((foundL l i win cut)[k']'(by omega)).1 < ((foundL l i win cut)[k]).1 ∧ ((foundL l i win cut)[k']'(by omega)).2 < ((foundL l i win cut)[k]).2) := by
  have g := good l i cut (lim i win)
  have hl := lim_le i win
  obtain ⟨h1, h2, h3, h4, h5, h6, h7⟩ := g.each ((foundL l i win cut)[k]) (List.getElem_mem hk)
  refine ⟨h1, h2, h3, h4, by omega, by omega, h7, fun k' e => ?_⟩
  exact List.pairwise_iff_getElem.1 g.rise k' k (by show k' < (foundL l i win cut).length; omega) hk (by omega)
theorem found_okL (l : List UInt8) (i : Nat) (win cut : Int) (hw : 0 ≤ win) (hc : 0 ≤ cut) (L : List (Nat × Nat)) (hL : foundL l i win cut = L) (k : Nat) (hk : k < L.length) :
    3 ≤ (L[k]).1 ∧ (L[k]).1 ≤ l.length - i ∧ (L[k]).1 ≤ 273 ∧ 1 ≤ (L[k]).2 ∧ (L[k]).2 ≤ i ∧ ((L[k]).2 : Int) ≤ win ∧
      (∀ j, j < (L[k]).1 → l.getD (i - (L[k]).2 + j) 0 = l.getD (i + j) 0) ∧
      (∀ (k' : Nat) (e : k = k' + 1), (L[k']'(by omega)).1 < (L[k]).1 ∧ (L[k']'(by omega)).2 < (L[k]).2) := by
  subst hL
  exact found_ok l i win cut hw hc k hk
theorem found_len (l : List UInt8) (i : Nat) (win cut : Int) (hc : 0 ≤ cut) : ((foundL l i win cut).length : Int) ≤ cut := by
  have := seen_cut l i cut hc (lim i win)
  unfold foundL
  omega
end Go.Ch
