/- Layer 18 (context), the plain law: what is learnt keeps what holds. -/
import Derived.Test.YtopnnbhiehljlaaCxN
namespace Go.Cx
set_option linter.unusedVariables false
open Go.Fq (T)

theorem T_add_s (t : T) (x : UInt8) : (t.add x).s = if t.s.idxOf x < t.s.length then t.s else t.s ++ [x] := by
  have e : (t.add x).s = (t.more x).s := by
    unfold T.add
    dsimp only
    split <;> rfl
  rw [e]
  unfold T.more
  split <;> rfl
theorem T_add_length (t : T) (x : UInt8) : (t.add x).s.length = t.s.length + if t.s.idxOf x < t.s.length then 0 else 1 := by
  rw [T_add_s]
  split <;> simp
theorem sums_append (l m : List Nd) : sums (l ++ m) = sums l + sums m := by simp [sums]
theorem sums_set : ∀ (l : List Nd) (i : Nat) (y : Nd), i < l.length → sums (l.set i y) + (tabAt l i).s.length = sums l + y.tab.s.length
  | [], i, y, h => by simp at h
  | z :: l, 0, y, h => by simp [sums, tabAt]; omega
  | z :: l, i + 1, y, h => by
    have ih := sums_set l i y (by simpa using h)
    simp [sums, tabAt] at ih ⊢
    omega
theorem used_addAt (l : List Nd) (t : List UInt8) (x : UInt8) : used (addAt l t x) = used l + need1 l t x := by
  unfold used need1
  rw [addAt_length]
  by_cases h : has l t = true
  · have hp := (place_txt h).1
    have hs := sums_set l (place l t) ⟨t, (tabAt l (place l t)).add x⟩ hp
    have hl : look l t = tabAt l (place l t) := by unfold look; rw [if_pos h]
    dsimp only at hs
    rw [T_add_length] at hs
    rw [if_pos h, if_pos h, hl]
    unfold addAt
    rw [if_pos h]
    split at hs <;> rename_i hx
    · rw [if_pos hx]; omega
    · rw [if_neg hx]; omega
  · rw [if_neg h, if_neg h]
    unfold addAt
    rw [if_neg h, sums_append]
    have : sums [⟨t, T.none_.add x⟩] = 1 := by
      simp only [sums, List.map_cons, List.map_nil, List.sum_cons, List.sum_nil, T_add_length]
      rfl
    rw [this]
    omega
theorem need1_other (l : List Nd) (t u : List UInt8) (x : UInt8) (hn : (texts l).Nodup) (hu : u ≠ t) : need1 (addAt l t x) u x = need1 l u x := by
  unfold need1
  have hb : (u == t) = false := by simpa using hu
  rw [addAt_has, hb, Bool.or_false, look_other _ _ _ _ hn hu]
/-- A text that is not among those that are learnt. -/
theorem lrn_other (l : List Nd) (h : List UInt8) (x : UInt8) (from_ : Nat) (u : List UInt8) : ∀ j, (∀ i, i < j → (texts (lrn l h x from_ i)).Nodup) → (∀ i, i < j → u ≠ suf h (from_ + i)) →
    has (lrn l h x from_ j) u = has l u ∧ look (lrn l h x from_ j) u = look l u
  | 0, _, _ => ⟨rfl, rfl⟩
  | j + 1, hn, hu => by
    obtain ⟨h1, h2⟩ := lrn_other l h x from_ u j (fun i hi => hn i (by omega)) (fun i hi => hu i (by omega))
    have hne := hu j (by omega)
    have hb : (u == suf h (from_ + j)) = false := by simpa using hne
    unfold lrn
    rw [addAt_has, hb, Bool.or_false, look_other _ _ _ _ (hn j (by omega)) hne]
    exact ⟨h1, h2⟩
theorem suf_ne {h : List UInt8} {a b : Nat} (ha : a ≤ h.length) (hb : b ≤ h.length) (hab : a ≠ b) : suf h a ≠ suf h b := fun e => by
  have := congrArg List.length e
  rw [suf_length ha, suf_length hb] at this
  exact hab this
theorem lrn_good {l : List Nd} (hg : Good l) (h : List UInt8) (x : UInt8) (from_ : Nat) (hf : from_ = 0 ∨ has l (suf h (from_ - 1)) = true) :
    ∀ j, from_ + j ≤ h.length + 1 → Good (lrn l h x from_ j) ∧ used (lrn l h x from_ j) = used l + needs l h x from_ j
  | 0, _ => ⟨hg, rfl⟩
  | j + 1, hj => by
    have hall : ∀ i, i ≤ j → Good (lrn l h x from_ i) := fun i hi => (lrn_good hg h x from_ hf i (by omega)).1
    obtain ⟨h1, h2⟩ := lrn_good hg h x from_ hf j (by omega)
    have hk : from_ + j ≤ h.length := by omega
    have ht : suf h (from_ + j) = [] ∨ has (lrn l h x from_ j) (suf h (from_ + j)).tail = true := by
      rcases Nat.eq_zero_or_pos (from_ + j) with h0 | h0
      · rw [h0, suf_zero]; exact .inl rfl
      · refine .inr ?_
        have htl := (suf_tail (h := h) (k := from_ + j - 1) (by omega)).1
        rw [show from_ + j - 1 + 1 = from_ + j by omega] at htl
        rw [htl]
        rcases Nat.eq_zero_or_pos j with hj0 | hj0
        · subst hj0
          rcases hf with hf | hf
          · omega
          · simpa [lrn] using hf
        · obtain ⟨i, rfl⟩ : ∃ i, j = i + 1 := ⟨j - 1, by omega⟩
          unfold lrn
          rw [addAt_has, show from_ + (i + 1) - 1 = from_ + i by omega]
          simp
    refine ⟨h1.addAt _ x ht, ?_⟩
    have e : need1 (lrn l h x from_ j) (suf h (from_ + j)) x = need1 l (suf h (from_ + j)) x := by
      obtain ⟨h3, h4⟩ := lrn_other l h x from_ (suf h (from_ + j)) j (fun i hi => (hall i (by omega)).nodup) (fun i hi => suf_ne hk (by omega) (by omega))
      unfold need1
      rw [h3, h4]
    show used (addAt _ _ _) = used l + (needs l h x from_ j + need1 l _ x)
    rw [used_addAt, h2, e]
    omega
theorem C.plen_le (c : C) : c.plen ≤ c.m + 1 := by have := (upG_spec (fun k => has c.nds (suf c.hist k)) (c.m + 1) 0).2.1; unfold C.plen; omega
theorem C.plen_has (c : C) {k : Nat} (h : k < c.plen) : has c.nds (suf c.hist k) = true := (upG_spec (fun k => has c.nds (suf c.hist k)) (c.m + 1) 0).2.2.1 k (Nat.zero_le _) h
theorem C.plen_stop (c : C) (h : c.plen ≤ c.m) : has c.nds (suf c.hist c.plen) = false := (upG_spec (fun k => has c.nds (suf c.hist k)) (c.m + 1) 0).2.2.2 (by unfold C.plen at h; omega)
theorem C.m_le (c : C) : c.m ≤ c.hist.length ∧ c.m ≤ c.ord := ⟨Nat.min_le_right _ _, Nat.min_le_left _ _⟩
/-- Where a longer text has a node, a shorter one has. -/
theorem Good.down {l : List Nd} (hg : Good l) (h : List UInt8) : ∀ (d k : Nat), k + d ≤ h.length → has l (suf h (k + d)) = true → has l (suf h k) = true
  | 0, k, _, hh => hh
  | d + 1, k, hk, hh => by
    have h1 := suf_tail (h := h) (k := k + d) (by omega)
    have h2 := hg.up (t := suf h (k + (d + 1))) hh h1.2
    rw [show k + (d + 1) = k + d + 1 by omega, h1.1] at h2
    exact hg.down h d k (by omega) h2
theorem C.Ok.has_iff {c : C} (h : c.Ok) {k : Nat} (hk : k ≤ c.m) : has c.nds (suf c.hist k) = true ↔ k < c.plen := by
  refine ⟨fun hh => ?_, fun hh => c.plen_has hh⟩
  rcases Nat.lt_or_ge k c.plen with h1 | h1
  · exact h1
  · have h2 := c.plen_stop (by omega)
    have h3 := h.good.down c.hist (k - c.plen) c.plen (by have := c.m_le; omega) (by rw [show c.plen + (k - c.plen) = k by omega]; exact hh)
    rw [h2] at h3
    cases h3
theorem C.forget_ok {c : C} (h : c.Ok) : c.forget.Ok := ⟨Good.nil, Nat.zero_le _, Nat.zero_le _, h.ord16, h.lo, h.hi⟩
theorem C.put_ok {c : C} (h : c.Ok) (x : UInt8) (from_ : Nat) (hf : from_ = 0 ∨ has c.nds (suf c.hist (from_ - 1)) = true) (hl : from_ ≤ c.m + 1) (hn : needs c.nds c.hist x from_ (c.m + 1 - from_) ≤ c.left) : (c.put x from_).Ok := by
  have h1 := lrn_good h.good c.hist x from_ hf (c.m + 1 - from_) (by have := c.m_le; omega)
  refine ⟨h1.1, ?_, ?_, h.ord16, h.lo, h.hi⟩
  · show used (lrn _ _ _ _ _) ≤ c.cells
    rw [h1.2]
    have := h.room
    unfold C.left at hn
    omega
  · show (trim c.ord (c.hist ++ [x])).length ≤ c.ord
    rw [trim_length]
    omega
theorem C.forget_needs (c : C) (x : UInt8) : needs c.forget.nds c.forget.hist x 0 (c.forget.m + 1 - 0) = 2 := by
  have hm : c.forget.m = 0 := by unfold C.m C.forget; simp
  rw [hm]
  rfl
theorem C.learn_ok {c : C} (h : c.Ok) (x : UInt8) (from_ : Nat) (hf : from_ ≤ c.plen) : (c.learn x from_).Ok := by
  unfold C.learn
  split
  · refine C.put_ok (C.forget_ok h) x 0 (.inl rfl) (Nat.zero_le _) ?_
    rw [C.forget_needs]
    have := h.lo
    show 2 ≤ c.cells - used []
    have : used [] = 0 := rfl
    omega
  · refine C.put_ok h x from_ ?_ (by have := c.plen_le; omega) (by omega)
    rcases Nat.eq_zero_or_pos from_ with h0 | h0
    · exact .inl h0
    · exact .inr (c.plen_has (by omega))
end Go.Cx
