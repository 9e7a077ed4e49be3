/- The plain law of layer 08 (bst): a tree of places finds what all places have. -/
import Derived.Test.YtjdmkffhhlijnaaChN
namespace Go.Bs
open Go.Ch
set_option linter.unusedVariables false
theorem alk_ne (l : List UInt8) (a b : Nat) : ∀ f n, alk l a b f n < n + f → l.getD (a + alk l a b f n) 0 ≠ l.getD (b + alk l a b f n) 0 := by
  intro f
  induction f with
  | zero => intro n h; simp only [alk] at h; omega
  | succ f ih =>
    intro n h
    simp only [alk] at h ⊢
    split
    · rename_i he
      rw [if_pos he] at h
      exact ih (n + 1) (by omega)
    · rename_i he
      exact he
theorem alike_ne {l : List UInt8} {a b : Nat} (h : alike l a b < most l b) : l.getD (a + alike l a b) 0 ≠ l.getD (b + alike l a b) 0 := alk_ne l a b _ 0 (by unfold alike at h; omega)
theorem alike_same {l : List UInt8} {a b j : Nat} (h : j < alike l a b) : l.getD (a + j) 0 = l.getD (b + j) 0 := alk_same l a b _ 0 j (Nat.zero_le _) h
theorem alike_ge {l : List UInt8} {a b m : Nat} (hm : m ≤ most l b) (h : ∀ j, j < m → l.getD (a + j) 0 = l.getD (b + j) 0) : m ≤ alike l a b := by
  rcases alk_ge l a b m (most l b) 0 (by omega) (fun j _ h2 => h j h2) with h1 | h1
  · exact h1
  · omega
/-- The first place of difference. -/
theorem alike_is {l : List UInt8} {a b m : Nat} (hm : m < most l b) (h : ∀ j, j < m → l.getD (a + j) 0 = l.getD (b + j) 0) (hne : l.getD (a + m) 0 ≠ l.getD (b + m) 0) : alike l a b = m := by
  have h1 := alike_ge (by omega) h
  rcases Nat.lt_or_ge m (alike l a b) with h2 | h2
  · exact absurd (alike_same h2) hne
  · omega
theorem most_le (l : List UInt8) {c i : Nat} (h : c ≤ i) : most l i ≤ most l c := by unfold most; omega
inductive T where
  | nil : T
  | node : Nat → T → T → T
def T.mem (x : Nat) : T → Prop
  | .nil => False
  | .node c a b => x = c ∨ a.mem x ∨ b.mem x
/-- x stands on the side r of c, as far as c's match may reach. -/
def Sd (r : UInt8 → UInt8 → Prop) (l : List UInt8) (x c : Nat) : Prop := alike l x c < most l c → r (l.getD (x + alike l x c) 0) (l.getD (c + alike l x c) 0)
def lt' (a b : UInt8) : Prop := a < b
def gt' (a b : UInt8) : Prop := b < a
structure Strict (r : UInt8 → UInt8 → Prop) : Prop where
  tr : ∀ a b c, r a b → r b c → r a c
  ir : ∀ a, ¬ r a a
theorem strict_lt : Strict lt' := ⟨fun a b c h1 h2 => UInt8.lt_trans h1 h2, fun a h => UInt8.lt_irrefl a h⟩
theorem strict_gt : Strict gt' := ⟨fun a b c h1 h2 => UInt8.lt_trans h2 h1, fun a h => UInt8.lt_irrefl a h⟩
theorem Sd.eq {r : UInt8 → UInt8 → Prop} {l : List UInt8} {x c i : Nat} (h : Sd r l x c) (hci : c ≤ i) (he : most l i ≤ alike l c i) : Sd r l x i := by
  intro ha
  have hm := most_le l hci
  have e : alike l x c = alike l x i := alike_is (by omega) (fun j hj => (alike_same hj).trans (alike_same (a := c) (b := i) (by omega)).symm) (by
    rw [alike_same (a := c) (b := i) (j := alike l x i) (by omega)]
    exact alike_ne ha)
  have h1 := h (by omega)
  rw [e, alike_same (a := c) (b := i) (j := alike l x i) (by omega)] at h1
  exact h1
theorem Sd.trans {r : UInt8 → UInt8 → Prop} (R : Strict r) {l : List UInt8} {x c i : Nat} (h : Sd r l x c) (hci : c ≤ i) (hn : alike l c i < most l i) (hr : r (l.getD (c + alike l c i) 0) (l.getD (i + alike l c i) 0)) : Sd r l x i := by
  intro ha
  have hm := most_le l hci
  rcases Nat.lt_trichotomy (alike l x i) (alike l c i) with hlt | heq | hgt
  · have ec := alike_same hlt
    have e : alike l x c = alike l x i := alike_is (by omega) (fun j hj => (alike_same hj).trans (alike_same (a := c) (b := i) (by omega)).symm) (by
      rw [ec]
      exact alike_ne ha)
    have h1 := h (by omega)
    rw [e, ec] at h1
    exact h1
  · rw [heq]
    have hag : alike l c i ≤ alike l x c := alike_ge (by omega) (fun j hj => (alike_same (by omega)).trans (alike_same hj).symm)
    rcases Nat.lt_or_ge (alike l c i) (alike l x c) with h2 | h2
    · rw [alike_same h2]
      exact hr
    · have e : alike l x c = alike l c i := by omega
      have h1 := h (by omega)
      rw [e] at h1
      exact R.tr _ _ _ h1 hr
  · have ex := alike_same hgt
    have e : alike l x c = alike l c i := alike_is (by omega) (fun j hj => (alike_same (by omega)).trans (alike_same hj).symm) (by
      rw [ex]
      exact fun h => (alike_ne hn) h.symm)
    have h1 := h (by omega)
    rw [e, ex] at h1
    exact absurd (R.tr _ _ _ h1 hr) (R.ir _)
def Ok (l : List UInt8) : T → Prop
  | .nil => True
  | .node c a b => (∀ x, a.mem x → x < c ∧ Sd lt' l x c) ∧ (∀ x, b.mem x → x < c ∧ Sd gt' l x c) ∧ Ok l a ∧ Ok l b
/-- A tree parted by place i: those with less, those with more. -/
def split (l : List UInt8) (win : Int) (i : Nat) : T → T × T
  | .nil => (.nil, .nil)
  | .node c a b => if win < (i : Int) - (c : Int) then (.nil, .nil) else if most l i ≤ alike l c i then (a, b)
    else if l.getD (c + alike l c i) 0 < l.getD (i + alike l c i) 0 then (.node c a (split l win i b).1, (split l win i b).2) else ((split l win i a).1, .node c (split l win i a).2 b)
/-- The places that are met. -/
def path (l : List UInt8) (win : Int) (i : Nat) : T → List Nat
  | .nil => []
  | .node c a b => if win < (i : Int) - (c : Int) then [] else c :: (if most l i ≤ alike l c i then [] else if l.getD (c + alike l c i) 0 < l.getD (i + alike l c i) 0 then path l win i b else path l win i a)
theorem split_sub (l : List UInt8) (win : Int) (i x : Nat) : ∀ t, ((split l win i t).1.mem x → t.mem x) ∧ ((split l win i t).2.mem x → t.mem x) := by
  intro t
  induction t with
  | nil => exact ⟨fun h => h, fun h => h⟩
  | node c a b iha ihb =>
    simp only [split]
    split
    · exact ⟨fun h => h.elim, fun h => h.elim⟩
    · split
      · exact ⟨fun h => .inr (.inl h), fun h => .inr (.inr h)⟩
      · split
        · refine ⟨fun h => ?_, fun h => .inr (.inr (ihb.2 h))⟩
          rcases h with h | h | h
          · exact .inl h
          · exact .inr (.inl h)
          · exact .inr (.inr (ihb.1 h))
        · refine ⟨fun h => .inr (.inl (iha.1 h)), fun h => ?_⟩
          rcases h with h | h | h
          · exact .inl h
          · exact .inr (.inl (iha.2 h))
          · exact .inr (.inr h)
theorem side {l : List UInt8} {c i : Nat} (hn : ¬ most l i ≤ alike l c i) (h : ¬ l.getD (c + alike l c i) 0 < l.getD (i + alike l c i) 0) : gt' (l.getD (c + alike l c i) 0) (l.getD (i + alike l c i) 0) := by
  have hne := alike_ne (l := l) (a := c) (b := i) (by omega)
  unfold gt'
  generalize l.getD (c + alike l c i) 0 = x at *
  generalize l.getD (i + alike l c i) 0 = y at *
  rcases Nat.lt_trichotomy x.toNat y.toNat with h1 | h1 | h1
  · exact absurd (UInt8.lt_iff_toNat_lt.2 h1) h
  · exact absurd (UInt8.toNat_inj.1 h1) hne
  · exact UInt8.lt_iff_toNat_lt.2 h1
theorem split_ok (l : List UInt8) (win : Int) (i : Nat) : ∀ t, Ok l t → (∀ x, t.mem x → x < i) →
    (∀ x, (split l win i t).1.mem x → Sd lt' l x i) ∧ (∀ x, (split l win i t).2.mem x → Sd gt' l x i) ∧ Ok l (split l win i t).1 ∧ Ok l (split l win i t).2 := by
  intro t
  induction t with
  | nil => intro _ _; exact ⟨fun x h => h.elim, fun x h => h.elim, trivial, trivial⟩
  | node c a b iha ihb =>
    intro hok hlt
    obtain ⟨h1, h2, ha, hb⟩ := hok
    have hci : c < i := hlt c (.inl rfl)
    have iha := iha ha (fun x h => hlt x (.inr (.inl h)))
    have ihb := ihb hb (fun x h => hlt x (.inr (.inr h)))
    simp only [split]
    split
    · exact ⟨fun x h => h.elim, fun x h => h.elim, trivial, trivial⟩
    · split
      · rename_i he
        exact ⟨fun x h => (h1 x h).2.eq (by omega) he, fun x h => (h2 x h).2.eq (by omega) he, ha, hb⟩
      · rename_i he
        split
        · rename_i hc
          refine ⟨fun x h => ?_, ihb.2.1, ⟨h1, fun x h => h2 x ((split_sub l win i x b).1 h), ha, ihb.2.2.1⟩, ihb.2.2.2⟩
          rcases h with h | h | h
          · subst h
            exact fun _ => hc
          · exact (h1 x h).2.trans strict_lt (by omega) (by omega) hc
          · exact ihb.1 x h
        · rename_i hc
          have hg := side he hc
          refine ⟨iha.1, fun x h => ?_, iha.2.2.1, ⟨fun x h => h1 x ((split_sub l win i x a).2 h), h2, iha.2.2.2, hb⟩⟩
          rcases h with h | h | h
          · subst h
            exact fun _ => hg
          · exact iha.2.1 x h
          · exact (h2 x h).2.trans strict_gt (by omega) (by omega) hg
/-- A nearer place that isn't dropped stays. -/
theorem split_keeps (l : List UInt8) (win : Int) (j k : Nat) (hw : (j : Int) - (k : Int) ≤ win) (ha : alike l k j < most l j) : ∀ t, Ok l t → t.mem k → (split l win j t).1.mem k ∨ (split l win j t).2.mem k := by
  intro t
  induction t with
  | nil => intro _ h; exact h.elim
  | node c a b iha ihb =>
    intro hok hm
    obtain ⟨h1, h2, h3, h4⟩ := hok
    have hkc : k ≤ c := by
      rcases hm with h | h | h
      · omega
      · have := (h1 k h).1; omega
      · have := (h2 k h).1; omega
    simp only [split]
    rw [if_neg (by omega)]
    split
    · rename_i he
      rcases hm with h | h | h
      · subst h; omega
      · exact .inl h
      · exact .inr h
    · split
      · rcases hm with h | h | h
        · exact .inl (.inl h)
        · exact .inl (.inr (.inl h))
        · rcases ihb h4 h with h | h
          · exact .inl (.inr (.inr h))
          · exact .inr h
      · rcases hm with h | h | h
        · exact .inr (.inl h)
        · rcases iha h3 h with h | h
          · exact .inl h
          · exact .inr (.inr (.inl h))
        · exact .inr (.inr (.inr h))
/-- The tree behind so many places. -/
def tree (l : List UInt8) (win : Int) : Nat → T
  | 0 => .nil
  | i + 1 => .node i (split l win i (tree l win i)).1 (split l win i (tree l win i)).2
theorem tree_ok (l : List UInt8) (win : Int) : ∀ i, Ok l (tree l win i) ∧ ∀ x, (tree l win i).mem x → x < i := by
  intro i
  induction i with
  | zero => exact ⟨trivial, fun x h => h.elim⟩
  | succ i ih =>
    obtain ⟨h1, h2, h3, h4⟩ := split_ok l win i _ ih.1 ih.2
    have hs : ∀ x, (split l win i (tree l win i)).1.mem x ∨ (split l win i (tree l win i)).2.mem x → x < i := fun x h => ih.2 x (h.elim (split_sub l win i x _).1 (split_sub l win i x _).2)
    refine ⟨⟨fun x h => ⟨hs x (.inl h), h1 x h⟩, fun x h => ⟨hs x (.inr h), h2 x h⟩, h3, h4⟩, fun x h => ?_⟩
    rcases h with h | h | h
    · omega
    · have := hs x (.inl h); omega
    · have := hs x (.inr h); omega
/-- A place that has more alike than all nearer ones. -/
def Rec (l : List UInt8) (i k : Nat) : Prop := ∀ j, k < j → j < i → alike l j i < alike l k i
theorem rec_kept (l : List UInt8) (win : Int) (i k : Nat) (hk : k < i) (hw : (i : Int) - (k : Int) ≤ win) (hr : Rec l i k) : ∀ n, k + 1 + n ≤ i → (tree l win (k + 1 + n)).mem k := by
  intro n
  induction n with
  | zero => intro _; exact .inl rfl
  | succ n ih =>
    intro hn
    have hm := ih (by omega)
    obtain ⟨j, hj⟩ : ∃ j, k + 1 + n = j := ⟨_, rfl⟩
    rw [hj] at hm
    have hji : j < i := by omega
    have ha : alike l k j < most l j := by
      refine Nat.lt_of_not_le fun h => ?_
      have h1 := alike_le l k i
      have h2 := most_le l (show j ≤ i by omega)
      have h3 : alike l k i ≤ alike l j i := alike_ge h1 (fun q hq => (alike_same (l := l) (a := k) (b := j) (j := q) (by omega)).symm.trans (alike_same hq))
      have := hr j (by omega) hji
      omega
    show (tree l win (k + 1 + n + 1)).mem k
    rw [hj]
    rcases split_keeps l win j k (by omega) ha _ (tree_ok l win j).1 hm with h | h
    · exact .inr (.inl h)
    · exact .inr (.inr h)
theorem rec_path (l : List UInt8) (win : Int) (i k : Nat) (hw : (i : Int) - (k : Int) ≤ win) (hr : Rec l i k) : ∀ t, Ok l t → (∀ x, t.mem x → x < i) → t.mem k → k ∈ path l win i t := by
  intro t
  induction t with
  | nil => intro _ _ h; exact h.elim
  | node c a b iha ihb =>
    intro hok hlt hm
    obtain ⟨h1, h2, h3, h4⟩ := hok
    have hci : c < i := hlt c (.inl rfl)
    by_cases hkc : k = c
    · subst hkc
      simp only [path]
      rw [if_neg (by omega)]
      exact List.mem_cons_self ..
    · have hkl : k < c := by
        rcases hm with h | h | h
        · exact absurd h hkc
        · exact (h1 k h).1
        · exact (h2 k h).1
      have hn := hr c hkl hci
      have hle := alike_le l k i
      have hmc := most_le l (show c ≤ i by omega)
      have ex := alike_same hn
      have e : alike l k c = alike l c i := alike_is (by omega) (fun j hj => (alike_same (by omega)).trans (alike_same hj).symm) (by
        rw [ex]
        exact fun h => (alike_ne (l := l) (a := c) (b := i) (by omega)) h.symm)
      simp only [path]
      rw [if_neg (by omega), if_neg (by omega)]
      refine List.mem_cons_of_mem _ ?_
      rcases hm with h | h | h
      · exact absurd h hkc
      · have hs := (h1 k h).2 (by omega)
        rw [e, ex] at hs
        have hno : ¬ (l.getD (c + alike l c i) 0 < l.getD (i + alike l c i) 0) := fun hc => strict_lt.ir _ (strict_lt.tr _ _ _ hs hc)
        rw [if_neg hno]
        exact iha h3 (fun x hx => hlt x (.inr (.inl hx))) h
      · have hs := (h2 k h).2 (by omega)
        rw [e, ex] at hs
        have hys : l.getD (c + alike l c i) 0 < l.getD (i + alike l c i) 0 := hs
        rw [if_pos hys]
        exact ihb h4 (fun x hx => hlt x (.inr (.inr hx))) h
/-- What has more alike than all nearer places is met. -/
theorem rec_met (l : List UInt8) (win : Int) (i k : Nat) (hk : k < i) (hw : (i : Int) - (k : Int) ≤ win) (hr : Rec l i k) : k ∈ path l win i (tree l win i) := by
  obtain ⟨h1, h2⟩ := tree_ok l win i
  have hm := rec_kept l win i k hk hw hr (i - k - 1) (by omega)
  rw [show k + 1 + (i - k - 1) = i by omega] at hm
  exact rec_path l win i k hw hr _ h1 h2 hm
theorem path_desc (l : List UInt8) (win : Int) (i : Nat) : ∀ t, Ok l t → (∀ x, t.mem x → x < i) → (path l win i t).Pairwise (fun a b => b < a) ∧ ∀ c, c ∈ path l win i t → t.mem c ∧ (i : Int) - (c : Int) ≤ win := by
  intro t
  induction t with
  | nil => intro _ _; exact ⟨List.Pairwise.nil, fun c h => by simp [path] at h⟩
  | node c a b iha ihb =>
    intro hok hlt
    obtain ⟨h1, h2, h3, h4⟩ := hok
    have iha := iha h3 (fun x hx => hlt x (.inr (.inl hx)))
    have ihb := ihb h4 (fun x hx => hlt x (.inr (.inr hx)))
    simp only [path]
    split
    · exact ⟨List.Pairwise.nil, fun c h => by simp at h⟩
    · rename_i hw
      split
      · exact ⟨List.pairwise_singleton _ _, fun q h => by
          obtain rfl := List.mem_singleton.1 h
          exact ⟨.inl rfl, by omega⟩⟩
      · split
        · refine ⟨List.pairwise_cons.2 ⟨fun q hq => (h2 q (ihb.2 q hq).1).1, ihb.1⟩, fun q h => ?_⟩
          rcases List.mem_cons.1 h with h | h
          · subst h; exact ⟨.inl rfl, by omega⟩
          · exact ⟨.inr (.inr (ihb.2 q h).1), (ihb.2 q h).2⟩
        · refine ⟨List.pairwise_cons.2 ⟨fun q hq => (h1 q (iha.2 q hq).1).1, iha.1⟩, fun q h => ?_⟩
          rcases List.mem_cons.1 h with h | h
          · subst h; exact ⟨.inl rfl, by omega⟩
          · exact ⟨.inr (.inl (iha.2 q h).1), (iha.2 q h).2⟩
def stepA (l : List UInt8) (i d : Nat) (h : Nat × List (Nat × Nat)) : Nat × List (Nat × Nat) :=
  if h.1 < alike l (i - d) i then (alike l (i - d) i, h.2 ++ [(alike l (i - d) i, d)]) else h
/-- All matches up to m back. -/
def allH (l : List UInt8) (i : Nat) : Nat → Nat × List (Nat × Nat)
  | 0 => (1, [])
  | m + 1 => stepA l i (m + 1) (allH l i m)
/-- What is told of places that are met. -/
def visit (l : List UInt8) (i : Nat) (V : List Nat) (h : Nat × List (Nat × Nat)) : Nat × List (Nat × Nat) := V.foldl (fun h c => stepA l i (i - c) h) h
theorem best_ge (l : List UInt8) (i : Nat) : ∀ m d, 1 ≤ d → d ≤ m → alike l (i - d) i ≤ (allH l i m).1 := by
  intro m
  induction m with
  | zero => intro d h1 h2; omega
  | succ m ih =>
    intro d h1 h2
    simp only [allH, stepA]
    by_cases e : d = m + 1
    · subst e
      split
      · exact Nat.le_refl _
      · omega
    · have := ih d h1 (by omega)
      split
      · show alike l (i - d) i ≤ alike l (i - (m + 1)) i
        omega
      · exact this
theorem filter_next (i m : Nat) (hm : m + 1 ≤ i) : ∀ V : List Nat, V.Pairwise (fun a b => b < a) → (∀ c ∈ V, c < i) →
    V.filter (fun c => decide (i - c ≤ m + 1)) = V.filter (fun c => decide (i - c ≤ m)) ++ (if i - (m + 1) ∈ V then [i - (m + 1)] else []) := by
  intro V
  induction V with
  | nil => intro _ _; simp
  | cons c V ih =>
    intro hp hl
    obtain ⟨h1, h2⟩ := List.pairwise_cons.1 hp
    have hc := hl c (by simp)
    have ih := ih h2 (fun x hx => hl x (by simp [hx]))
    rcases Nat.lt_trichotomy (i - c) (m + 1) with h | h | h
    · rw [List.filter_cons_of_pos (by simp; omega), List.filter_cons_of_pos (by simp; omega), ih]
      have hne : i - (m + 1) ≠ c := by omega
      simp [hne]
    · have hall : ∀ n, n ≤ m + 1 → V.filter (fun c => decide (i - c ≤ n)) = [] := fun n hn => List.filter_eq_nil_iff.2 (fun x hx => by
        have := h1 x hx
        have := hl x (by simp [hx])
        simp; omega)
      have e : i - (m + 1) = c := by omega
      rw [List.filter_cons_of_pos (by simp; omega), List.filter_cons_of_neg (by simp; omega), hall _ (Nat.le_refl _), hall _ (by omega), e]
      simp
    · have hall : ∀ n, n ≤ m + 1 → V.filter (fun c => decide (i - c ≤ n)) = [] := fun n hn => List.filter_eq_nil_iff.2 (fun x hx => by
        have := h1 x hx
        have := hl x (by simp [hx])
        simp; omega)
      have hno : i - (m + 1) ∉ c :: V := by
        intro hx
        rcases List.mem_cons.1 hx with hx | hx
        · omega
        · have := h1 _ hx; omega
      rw [List.filter_cons_of_neg (by simp; omega), List.filter_cons_of_neg (by simp; omega), hall _ (Nat.le_refl _), hall _ (by omega), if_neg hno]
      rfl
theorem visit_all (l : List UInt8) (i M : Nat) (hM : M ≤ i) (V : List Nat) (hp : V.Pairwise (fun a b => b < a)) (hl : ∀ c ∈ V, c < i) (hn : ∀ d, 1 ≤ d → d ≤ M → i - d ∉ V → alike l (i - d) i ≤ (allH l i (d - 1)).1) :
    ∀ m, m ≤ M → visit l i (V.filter (fun c => decide (i - c ≤ m))) (1, []) = allH l i m := by
  intro m
  induction m with
  | zero =>
    intro _
    rw [List.filter_eq_nil_iff.2 (fun x hx => by have := hl x hx; simp; omega)]
    rfl
  | succ m ih =>
    intro hm
    have ih := ih (by omega)
    rw [filter_next i m (by omega) V hp hl]
    unfold visit at ih ⊢
    rw [List.foldl_append, ih]
    by_cases hk : i - (m + 1) ∈ V
    · rw [if_pos hk]
      simp only [List.foldl_cons, List.foldl_nil]
      rw [show i - (i - (m + 1)) = m + 1 by omega]
      rfl
    · rw [if_neg hk]
      have := hn (m + 1) (by omega) hm hk
      rw [Nat.add_sub_cancel] at this
      simp only [List.foldl_nil, allH, stepA]
      rw [if_neg (by omega)]
/-- What the tree tells is what all places tell. -/
theorem visit_tree (l : List UInt8) (win : Int) (i : Nat) : visit l i (path l win i (tree l win i)) (1, []) = allH l i (lim i win) := by
  obtain ⟨h1, h2⟩ := tree_ok l win i
  obtain ⟨h3, h4⟩ := path_desc l win i _ h1 h2
  have hlim := lim_le i win
  have hlt : ∀ c ∈ path l win i (tree l win i), c < i := fun c hc => h2 c (h4 c hc).1
  have h := visit_all l i (lim i win) hlim.1 (path l win i (tree l win i)) h3 hlt (fun d hd1 hd2 hno => by
    have hnr : ¬ Rec l i (i - d) := fun hr => hno (rec_met l win i (i - d) (by omega) (by omega) hr)
    have : ∃ j, i - d < j ∧ j < i ∧ ¬ alike l j i < alike l (i - d) i := Classical.byContradiction (fun hc => hnr (fun j ha hb => Classical.byContradiction (fun hd => hc ⟨j, ha, hb, hd⟩)))
    obtain ⟨j, ha, hb, hc⟩ := this
    have hb2 := best_ge l i (d - 1) (i - j) (by omega) (by omega)
    rw [show i - (i - j) = j by omega] at hb2
    omega) (lim i win) (Nat.le_refl _)
  rw [← h]
  congr 1
  refine (List.filter_eq_self.2 (fun c hc => ?_)).symm
  have := hlt c hc
  have := (h4 c hc).2
  unfold lim
  simp
  omega
end Go.Bs
