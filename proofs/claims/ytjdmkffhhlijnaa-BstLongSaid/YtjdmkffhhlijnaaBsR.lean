/- The plain law of layer 08 (bst): the tree in two rows, with two holes while a place is hung. -/
import Derived.Test.YtjdmkffhhlijnaaBsM
namespace Go.Bs
open Go.Ch
set_option linter.unusedVariables false
/-- A tree that lies in two rows. -/
def Rep (L M : Nat → Int) : T → Int → Prop
  | .nil, v => v = -1
  | .node c a b, v => v = (c : Int) ∧ Rep L M a (L c) ∧ Rep L M b (M c)
/-- No place twice. -/
def Dist : T → Prop
  | .nil => True
  | .node c a b => ¬ a.mem c ∧ ¬ b.mem c ∧ (∀ x, a.mem x → ¬ b.mem x) ∧ Dist a ∧ Dist b
theorem split_dist (l : List UInt8) (win : Int) (i : Nat) : ∀ t, Dist t → (∀ x, (split l win i t).1.mem x → ¬ (split l win i t).2.mem x) ∧ Dist (split l win i t).1 ∧ Dist (split l win i t).2 := by
  intro t
  induction t with
  | nil => intro _; exact ⟨fun x h => h.elim, trivial, trivial⟩
  | node c a b iha ihb =>
    intro hd
    obtain ⟨h1, h2, h3, h4, h5⟩ := hd
    have iha := iha h4
    have ihb := ihb h5
    have sa := fun x => split_sub l win i x a
    have sb := fun x => split_sub l win i x b
    simp only [split]
    split
    · exact ⟨fun x h => h.elim, trivial, trivial⟩
    · split
      · exact ⟨h3, h4, h5⟩
      · split
        · refine ⟨fun x h hn => ?_, ⟨h1, fun h => h2 ((sb c).1 h), fun x hx hn => h3 x hx ((sb x).1 hn), h4, ihb.2.1⟩, ihb.2.2⟩
          rcases h with h | h | h
          · subst h; exact h2 ((sb _).2 hn)
          · exact h3 x h ((sb x).2 hn)
          · exact ihb.1 x h hn
        · refine ⟨fun x hn h => ?_, iha.2.1, ⟨fun h => h1 ((sa c).2 h), h2, fun x hx hn => h3 x ((sa x).2 hx) hn, iha.2.2, h5⟩⟩
          rcases h with h | h | h
          · subst h; exact h1 ((sa _).1 hn)
          · exact iha.1 x hn h
          · exact h3 x ((sa x).1 hn) h
theorem tree_dist (l : List UInt8) (win : Int) : ∀ i, Dist (tree l win i) := by
  intro i
  induction i with
  | zero => trivial
  | succ i ih =>
    obtain ⟨h1, h2, h3⟩ := split_dist l win i _ ih
    have hlt := (tree_ok l win i).2
    have hs : ∀ x, (split l win i (tree l win i)).1.mem x ∨ (split l win i (tree l win i)).2.mem x → x < i := fun x h => hlt x (h.elim (split_sub l win i x _).1 (split_sub l win i x _).2)
    exact ⟨fun h => by have := hs i (.inl h); omega, fun h => by have := hs i (.inr h); omega, h1, h2, h3⟩
theorem rep_keep {L M L' M' : Nat → Int} : ∀ t v, Rep L M t v → (∀ x, t.mem x → L' x = L x ∧ M' x = M x) → Rep L' M' t v := by
  intro t
  induction t with
  | nil => intro v h _; exact h
  | node c a b iha ihb =>
    intro v h hk
    obtain ⟨h1, h2, h3⟩ := h
    obtain ⟨e1, e2⟩ := hk c (.inl rfl)
    refine ⟨h1, ?_, ?_⟩
    · rw [e1]; exact iha _ h2 (fun x hx => hk x (.inr (.inl hx)))
    · rw [e2]; exact ihb _ h3 (fun x hx => hk x (.inr (.inr hx)))
/-- A store into the row g. -/
def setR (g H x : Nat) (v : Int) (L : Nat → Int) : Nat → Int := fun j => if H = g ∧ j = x then v else L j
def val (gl H : Nat) (L M : Nat → Int) (x : Nat) : Int := if H = gl then L x else M x
theorem setR_ne {g H x j : Nat} {v : Int} {L : Nat → Int} (h : ¬ (H = g ∧ j = x)) : setR g H x v L j = L j := by simp only [setR]; rw [if_neg h]
/-- While place i is hung: two holes, a tree that is yet to be parted. -/
structure Pend (l : List UInt8) (win : Int) (i gl gm : Nat) (L M : Nat → Int) (H1 x1 H2 x2 : Nat) (t : T) (k : Int) : Prop where
  rep : Rep L M t k
  ok : Ok l t
  lt : ∀ x, t.mem x → x < i
  dist : Dist t
  b1 : H1 = gl ∨ H1 = gm
  b2 : H2 = gl ∨ H2 = gm
  i1 : x1 ≤ i
  i2 : x2 ≤ i
  n1 : ¬ t.mem x1
  n2 : ¬ t.mem x2
  ne : ¬ (H1 = H2 ∧ x1 = x2)
  cont : ∀ L' M' : Nat → Int, (∀ x, ¬ t.mem x → ¬ (H1 = gl ∧ x = x1) → ¬ (H2 = gl ∧ x = x2) → L' x = L x) → (∀ x, ¬ t.mem x → ¬ (H1 = gm ∧ x = x1) → ¬ (H2 = gm ∧ x = x2) → M' x = M x) →
    Rep L' M' (split l win i t).1 (val gl H1 L' M' x1) → Rep L' M' (split l win i t).2 (val gl H2 L' M' x2) → Rep L' M' (tree l win (i + 1)) (i : Int)
theorem pend_start {l : List UInt8} {win : Int} {i gl gm : Nat} (hg : gl ≠ gm) {L M : Nat → Int} {k : Int} (h : Rep L M (tree l win i) k) : Pend l win i gl gm L M gl i gm i (tree l win i) k := by
  have hlt := (tree_ok l win i).2
  refine ⟨h, (tree_ok l win i).1, hlt, tree_dist l win i, .inl rfl, .inr rfl, Nat.le_refl _, Nat.le_refl _, fun h => by have := hlt i h; omega, fun h => by have := hlt i h; omega, fun h => hg h.1, ?_⟩
  intro L' M' _ _ h1 h2
  rw [show val gl gl L' M' i = L' i by simp [val]] at h1
  rw [show val gl gm L' M' i = M' i by simp [val, hg.symm]] at h2
  exact ⟨rfl, h1, h2⟩
theorem val_set {gl gm H x : Nat} (hg : gl ≠ gm) (hb : H = gl ∨ H = gm) {L M : Nat → Int} {v : Int} : val gl H (setR gl H x v L) (setR gm H x v M) x = v := by
  rcases hb with rfl | rfl
  · simp [val, setR]
  · simp [val, setR, hg.symm]
theorem val_set_ne {gl gm H x H2 x2 : Nat} (hg : gl ≠ gm) (hb : H = gl ∨ H = gm) (hb2 : H2 = gl ∨ H2 = gm) (hn : ¬ (H = H2 ∧ x = x2)) {L M : Nat → Int} {v : Int} : val gl H2 (setR gl H x v L) (setR gm H x v M) x2 = val gl H2 L M x2 := by
  have hg' : gm ≠ gl := fun e => hg e.symm
  unfold val
  split
  · rename_i h
    exact setR_ne (fun e => hn ⟨e.1.trans h.symm, e.2.symm⟩)
  · rename_i h
    exact setR_ne (fun e => hn ⟨e.1.trans ((hb2.resolve_left h).symm), e.2.symm⟩)
/-- What stands with less: it hangs at the first hole; go on with what has more than it. -/
theorem pend_less {l : List UInt8} {win : Int} {i gl gm : Nat} (hg : gl ≠ gm) {L M : Nat → Int} {H1 x1 H2 x2 c : Nat} {a b : T} {k : Int} (h : Pend l win i gl gm L M H1 x1 H2 x2 (.node c a b) k)
    (hw : ¬ win < (i : Int) - (c : Int)) (hm : ¬ most l i ≤ alike l c i) (hc : l.getD (c + alike l c i) 0 < l.getD (i + alike l c i) 0) :
    Pend l win i gl gm (setR gl H1 x1 c L) (setR gm H1 x1 c M) gm c H2 x2 b (M c) := by
  obtain ⟨⟨hk, ra, rb⟩, ⟨o1, o2, o3, o4⟩, lt, ⟨d1, d2, d3, d4, d5⟩, b1, b2, i1, i2, n1, n2, ne, cont⟩ := h
  have hcx1 : c ≠ x1 := fun e => n1 (.inl e.symm)
  have hcx2 : c ≠ x2 := fun e => n2 (.inl e.symm)
  have off : ∀ x, (T.node c a b).mem x → setR gl H1 x1 c L x = L x ∧ setR gm H1 x1 c M x = M x := fun x hx => ⟨setR_ne (fun e => n1 (e.2 ▸ hx)), setR_ne (fun e => n1 (e.2 ▸ hx))⟩
  refine ⟨rep_keep b _ rb (fun x hx => off x (.inr (.inr hx))), o4, fun x hx => lt x (.inr (.inr hx)), d5, .inr rfl, b2, Nat.le_of_lt (lt c (.inl rfl)), i2, d2, fun hx => n2 (.inr (.inr hx)), fun e => hcx2 e.2, ?_⟩
  intro L' M' hL hM r1 r2
  have es : split l win i (.node c a b) = (.node c a (split l win i b).1, (split l win i b).2) := by simp only [split]; rw [if_neg hw, if_neg hm, if_pos hc]
  have hv : val gl gm L' M' c = M' c := by simp [val, hg.symm]
  rw [hv] at r1
  refine cont L' M' (fun x hx h1 h2 => ?_) (fun x hx h1 h2 => ?_) ?_ ?_
  · rw [hL x (fun hb => hx (.inr (.inr hb))) (fun e => hg e.1.symm) h2]
    exact setR_ne h1
  · rw [hM x (fun hb => hx (.inr (.inr hb))) (fun e => hx (.inl e.2)) h2]
    exact setR_ne h1
  · rw [es]
    have hval : val gl H1 L' M' x1 = (c : Int) := by
      rcases b1 with rfl | rfl
      · have := hL x1 (fun hb => n1 (.inr (.inr hb))) (fun e => hg e.1.symm) (fun e => ne ⟨e.1.symm, e.2⟩)
        simp only [val, if_true, this, setR]
        simp
      · have := hM x1 (fun hb => n1 (.inr (.inr hb))) (fun e => hcx1 e.2.symm) (fun e => ne ⟨e.1.symm, e.2⟩)
        simp only [val, this, setR]
        simp [hg.symm]
    refine ⟨hval, ?_, r1⟩
    have hLc : L' c = L c := by
      rw [hL c d2 (fun e => hg e.1.symm) (fun e => hcx2 e.2)]
      exact (off c (.inl rfl)).1
    rw [hLc]
    refine rep_keep a _ ra (fun x hx => ?_)
    have hnx : x ≠ c := fun e => d1 (e ▸ hx)
    have hx2 : x ≠ x2 := fun e => n2 (e ▸ (.inr (.inl hx)))
    refine ⟨?_, ?_⟩
    · rw [hL x (d3 x hx) (fun e => hg e.1.symm) (fun e => hx2 e.2)]
      exact (off x (.inr (.inl hx))).1
    · rw [hM x (d3 x hx) (fun e => hnx e.2) (fun e => hx2 e.2)]
      exact (off x (.inr (.inl hx))).2
  · rw [es]; exact r2
theorem pend_more {l : List UInt8} {win : Int} {i gl gm : Nat} (hg : gl ≠ gm) {L M : Nat → Int} {H1 x1 H2 x2 c : Nat} {a b : T} {k : Int} (h : Pend l win i gl gm L M H1 x1 H2 x2 (.node c a b) k)
    (hw : ¬ win < (i : Int) - (c : Int)) (hm : ¬ most l i ≤ alike l c i) (hc : ¬ l.getD (c + alike l c i) 0 < l.getD (i + alike l c i) 0) :
    Pend l win i gl gm (setR gl H2 x2 c L) (setR gm H2 x2 c M) H1 x1 gl c a (L c) := by
  obtain ⟨⟨hk, ra, rb⟩, ⟨o1, o2, o3, o4⟩, lt, ⟨d1, d2, d3, d4, d5⟩, b1, b2, i1, i2, n1, n2, ne, cont⟩ := h
  have hcx1 : c ≠ x1 := fun e => n1 (.inl e.symm)
  have hcx2 : c ≠ x2 := fun e => n2 (.inl e.symm)
  have off : ∀ x, (T.node c a b).mem x → setR gl H2 x2 c L x = L x ∧ setR gm H2 x2 c M x = M x := fun x hx => ⟨setR_ne (fun e => n2 (e.2 ▸ hx)), setR_ne (fun e => n2 (e.2 ▸ hx))⟩
  refine ⟨rep_keep a _ ra (fun x hx => off x (.inr (.inl hx))), o3, fun x hx => lt x (.inr (.inl hx)), d4, b1, .inl rfl, i1, Nat.le_of_lt (lt c (.inl rfl)), fun hx => n1 (.inr (.inl hx)), d1, fun e => hcx1 e.2.symm, ?_⟩
  intro L' M' hL hM r1 r2
  have es : split l win i (.node c a b) = ((split l win i a).1, .node c (split l win i a).2 b) := by simp only [split]; rw [if_neg hw, if_neg hm, if_neg hc]
  have hv : val gl gl L' M' c = L' c := by simp [val]
  rw [hv] at r2
  refine cont L' M' (fun x hx h1 h2 => ?_) (fun x hx h1 h2 => ?_) ?_ ?_
  · rw [hL x (fun hb => hx (.inr (.inl hb))) h1 (fun e => hx (.inl e.2))]
    exact setR_ne h2
  · rw [hM x (fun hb => hx (.inr (.inl hb))) h1 (fun e => hg e.1)]
    exact setR_ne h2
  · rw [es]; exact r1
  · rw [es]
    have hval : val gl H2 L' M' x2 = (c : Int) := by
      rcases b2 with rfl | rfl
      · have := hL x2 (fun hb => n2 (.inr (.inl hb))) (fun e => ne ⟨e.1, e.2.symm⟩) (fun e => hcx2 e.2.symm)
        simp only [val, if_true, this, setR]
        simp
      · have := hM x2 (fun hb => n2 (.inr (.inl hb))) (fun e => ne ⟨e.1, e.2.symm⟩) (fun e => hg e.1)
        simp only [val, this, setR]
        simp [hg.symm]
    refine ⟨hval, r2, ?_⟩
    have hMc : M' c = M c := by
      rw [hM c d1 (fun e => hcx1 e.2) (fun e => hg e.1)]
      exact (off c (.inl rfl)).2
    rw [hMc]
    refine rep_keep b _ rb (fun x hx => ?_)
    have hnx : x ≠ c := fun e => d2 (e ▸ hx)
    have hx1 : x ≠ x1 := fun e => n1 (e ▸ (.inr (.inr hx)))
    have hna : ¬ a.mem x := fun h => d3 x h hx
    refine ⟨?_, ?_⟩
    · rw [hL x hna (fun e => hx1 e.2) (fun e => hnx e.2)]
      exact (off x (.inr (.inr hx))).1
    · rw [hM x hna (fun e => hx1 e.2) (fun e => hg e.1)]
      exact (off x (.inr (.inr hx))).2
/-- Both holes filled. -/
theorem pend_fill {l : List UInt8} {win : Int} {i gl gm : Nat} (hg : gl ≠ gm) {L M : Nat → Int} {H1 x1 H2 x2 : Nat} {t : T} {k : Int} (h : Pend l win i gl gm L M H1 x1 H2 x2 t k) (u v : Int)
    (hu : Rep L M (split l win i t).1 u) (hv : Rep L M (split l win i t).2 v) :
    Rep (setR gl H2 x2 v (setR gl H1 x1 u L)) (setR gm H2 x2 v (setR gm H1 x1 u M)) (tree l win (i + 1)) (i : Int) := by
  have n1 := h.n1
  have n2 := h.n2
  have e1 : ∀ x, t.mem x → x ≠ x1 := fun x hx e => n1 (e ▸ hx)
  have e2 : ∀ x, t.mem x → x ≠ x2 := fun x hx e => n2 (e ▸ hx)
  have off : ∀ x, t.mem x → setR gl H2 x2 v (setR gl H1 x1 u L) x = L x ∧ setR gm H2 x2 v (setR gm H1 x1 u M) x = M x := fun x hx =>
    ⟨(setR_ne (fun e => e2 x hx e.2)).trans (setR_ne (fun e => e1 x hx e.2)), (setR_ne (fun e => e2 x hx e.2)).trans (setR_ne (fun e => e1 x hx e.2))⟩
  refine h.cont _ _ (fun x _ h1 h2 => (setR_ne h2).trans (setR_ne h1)) (fun x _ h1 h2 => (setR_ne h2).trans (setR_ne h1)) ?_ ?_
  · rw [val_set_ne hg h.b2 h.b1 (fun e => h.ne ⟨e.1.symm, e.2.symm⟩), val_set hg h.b1]
    exact rep_keep _ _ hu (fun x hx => off x ((split_sub l win i x t).1 hx))
  · rw [val_set hg h.b2]
    exact rep_keep _ _ hv (fun x hx => off x ((split_sub l win i x t).2 hx))
theorem pend_nil {l : List UInt8} {win : Int} {i gl gm : Nat} {L M : Nat → Int} {H1 x1 H2 x2 : Nat} {t : T} {k : Int} (h : Pend l win i gl gm L M H1 x1 H2 x2 t k) (hk : k = -1) : t = .nil := by
  cases t with
  | nil => rfl
  | node c a b => have := h.rep.1; omega
theorem pend_node {l : List UInt8} {win : Int} {i gl gm : Nat} {L M : Nat → Int} {H1 x1 H2 x2 : Nat} {t : T} {k : Int} (h : Pend l win i gl gm L M H1 x1 H2 x2 t k) (hk : k ≠ -1) : ∃ c a b, t = .node c a b ∧ k = (c : Int) ∧ c < i ∧ c ≠ x1 ∧ c ≠ x2 := by
  cases t with
  | nil => exact absurd h.rep hk
  | node c a b => exact ⟨c, a, b, rfl, h.rep.1, h.lt c (.inl rfl), fun e => h.n1 (.inl e.symm), fun e => h.n2 (.inl e.symm)⟩
/-- The next one is farther. -/
theorem rep_lt {L M : Nat → Int} {t : T} {v : Int} (h : Rep L M t v) {c : Nat} (hl : ∀ x, t.mem x → x < c) : -1 ≤ v ∧ v < (c : Int) := by
  cases t with
  | nil => have : v = -1 := h; omega
  | node d a b => have := h.1; have := hl d (.inl rfl); omega
end Go.Bs
