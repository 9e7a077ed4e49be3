/- Objects with blocks of their own, in a list that may be put in another order. -/
import Derived.Test.YtopnnbhiehljlaaOw
namespace Go.Proofs.Ytopnnbhiehljlaa
set_option linter.unusedVariables false
open Go.RowKit Go.My

structure St (w : World) (l : List Thing) : Prop where
  is : ∀ x ∈ l, x.1 w ∧ Ob x
  ap : l.Pairwise fun x y => ∀ k, x.2 k → ¬ y.2 k
def foot (l : List Thing) : Nat → Prop := fun k => ∃ x ∈ l, x.2 k
theorem St.nil (w : World) : St w [] := ⟨fun x h => by simp at h, List.Pairwise.nil⟩
theorem St.perm {w : World} {l m : List Thing} (h : St w l) (hp : l.Perm m) : St w m :=
  ⟨fun x hx => h.is x (hp.mem_iff.2 hx), (hp.pairwise_iff (fun {x y} h k hy hx => h k hx hy)).1 h.ap⟩
theorem foot_perm {l m : List Thing} (hp : l.Perm m) {k : Nat} (h : foot l k) : foot m k := by
  obtain ⟨x, hx, hk⟩ := h
  exact ⟨x, hp.mem_iff.1 hx, hk⟩
theorem St.get {w : World} {l : List Thing} (h : St w l) {x : Thing} (hx : x ∈ l) : x.1 w := (h.is x hx).1
theorem St.keep {w w' : World} {l : List Thing} {S : Nat → Prop} (h : St w l) (hf : Fr S w w') (hs : ∀ k, foot l k → ¬ S k) : St w' l :=
  ⟨fun x hx => ⟨(h.is x hx).2.keep (h.is x hx).1 hf (fun k hk => hs k ⟨x, hx, hk⟩), (h.is x hx).2⟩, h.ap⟩
theorem St.fresh {w w' : World} {l : List Thing} (h : St w l) (hf : Fr (fun _ => False) w w') : St w' l := h.keep hf (fun _ _ h => h)
theorem St.lt {w : World} {l : List Thing} (h : St w l) {k : Nat} (hk : foot l k) : k < w.heap.size := by
  obtain ⟨x, hx, hk⟩ := hk
  exact (h.is x hx).2.lt (h.is x hx).1 hk
theorem St.tail {w : World} {x : Thing} {l : List Thing} (h : St w (x :: l)) : St w l := ⟨fun y hy => h.is y (by simp [hy]), (List.pairwise_cons.1 h.ap).2⟩
theorem St.turn {w w' : World} {x y : Thing} {l : List Thing} (h : St w (x :: l)) (hs : Step w w' x.2 y.2) (hy : y.1 w') (ho : Ob y) : St w' (y :: l) ∧ Step w w' (foot (x :: l)) (foot (y :: l)) := by
  have hp := List.pairwise_cons.1 h.ap
  have hl : St w' l := h.tail.keep hs.fr (fun k hk hx => by obtain ⟨z, hz, hk⟩ := hk; exact hp.1 z hz k hx hk)
  refine ⟨⟨fun z hz => ?_, List.pairwise_cons.2 ⟨fun z hz k hk hk2 => ?_, hp.2⟩⟩, ⟨hs.fr.mono (fun k hk => .inl ⟨x, by simp, hk⟩), fun k hk => ?_⟩⟩
  · rcases List.mem_cons.1 hz with rfl | hz
    · exact ⟨hy, ho⟩
    · exact hl.is z hz
  · rcases hs.foot k hk with h1 | h1
    · exact hp.1 z hz k h1 hk2
    · have := h.tail.lt (k := k) ⟨z, hz, hk2⟩
      omega
  · obtain ⟨z, hz, hk⟩ := hk
    rcases List.mem_cons.1 hz with rfl | hz
    · rcases hs.foot k hk with h1 | h1
      · exact .inl ⟨x, by simp, h1⟩
      · exact .inr h1
    · exact .inl ⟨z, by simp [hz], hk⟩
theorem St.new {w w' : World} {y : Thing} {l : List Thing} (h : St w l) (hf : Fr (fun _ => False) w w') (hy : y.1 w') (ho : Ob y) (hn : ∀ k, y.2 k → w.heap.size ≤ k) : St w' (y :: l) ∧ Step w w' (foot l) (foot (y :: l)) := by
  have hl := h.fresh hf
  refine ⟨⟨fun z hz => ?_, List.pairwise_cons.2 ⟨fun z hz k hk hk2 => ?_, h.ap⟩⟩, ⟨hf.mono (fun k hk => hk.elim), fun k hk => ?_⟩⟩
  · rcases List.mem_cons.1 hz with rfl | hz
    · exact ⟨hy, ho⟩
    · exact hl.is z hz
  · have := h.lt (k := k) ⟨z, hz, hk2⟩
    have := hn k hk
    omega
  · obtain ⟨z, hz, hk⟩ := hk
    rcases List.mem_cons.1 hz with rfl | hz
    · exact .inr (hn k hk)
    · exact .inl ⟨z, hz, hk⟩
theorem Step.of_perm {w w' : World} {l l' m m' : List Thing} (h : Step w w' (foot l) (foot m)) (hl : l.Perm l') (hm : m.Perm m') : Step w w' (foot l') (foot m') :=
  ⟨h.fr.mono (fun k hk => .inl (foot_perm hl hk)), fun k hk => (h.foot k (foot_perm hm.symm hk)).imp (foot_perm hl) id⟩
theorem Step.fresh {w w' : World} {S : Nat → Prop} (h : Fr (fun _ => False) w w') : Step w w' S S := ⟨h.mono (fun k hk => hk.elim), fun k hk => .inl hk⟩
/-- Some of them as one. -/
def allO (l : List Thing) : Thing := (fun w => St w l, foot l)
theorem allO_ob (l : List Thing) : Ob (allO l) := ⟨fun h hf hs => St.keep h hf hs, fun h hk => St.lt h hk⟩
theorem St.join {w : World} {l m : List Thing} (h : St w (l ++ m)) : St w (allO l :: m) := by
  obtain ⟨h1, h2, h3⟩ := List.pairwise_append.1 h.ap
  refine ⟨fun x hx => ?_, List.pairwise_cons.2 ⟨fun y hy k hk hk2 => ?_, h2⟩⟩
  · rcases List.mem_cons.1 hx with rfl | hx
    · exact ⟨⟨fun y hy => h.is y (by simp [hy]), h1⟩, allO_ob _⟩
    · exact h.is x (by simp [hx])
  · obtain ⟨z, hz, hk⟩ := hk
    exact h3 z hz y hy k hk hk2
theorem St.part {w : World} {l m : List Thing} (h : St w (allO l :: m)) : St w (l ++ m) := by
  obtain ⟨h1, h2⟩ := List.pairwise_cons.1 h.ap
  have hl : St w l := (h.is (allO l) (by simp)).1
  refine ⟨fun x hx => ?_, List.pairwise_append.2 ⟨hl.ap, h2, fun x hx y hy k hk hk2 => h1 y hy k ⟨x, hx, hk⟩ hk2⟩⟩
  rcases List.mem_append.1 hx with hx | hx
  · exact hl.is x hx
  · exact h.is x (by simp [hx])
/-- One object that is kept by itself. -/
theorem St.one {w : World} {x : Thing} (h : x.1 w) (ho : Ob x) : St w [x] := by
  refine ⟨fun y hy => ?_, List.pairwise_singleton _ _⟩
  obtain rfl : y = x := by simpa using hy
  exact ⟨h, ho⟩
/-! ### By numbers -/
theorem St.turn_at {w w' : World} {l : List Thing} (h : St w l) (i : Nat) {x y : Thing} (hx : l[i]? = some x) (hs : Step w w' x.2 y.2) (hy : y.1 w') (ho : Ob y) : St w' (l.set i y) ∧ Step w w' (foot l) (foot (l.set i y)) := by
  obtain ⟨hi, hxi⟩ := List.getElem?_eq_some_iff.1 hx
  have e1 : l = l.take i ++ x :: l.drop (i + 1) := by rw [← hxi, ← List.drop_eq_getElem_cons hi, List.take_append_drop]
  have e2 : l.set i y = l.take i ++ y :: l.drop (i + 1) := by rw [List.set_eq_take_append_cons_drop, if_pos hi]
  have p1 : l.Perm (x :: (l.take i ++ l.drop (i + 1))) := by conv => lhs; rw [e1]
                                                             exact List.perm_middle
  have p2 : (y :: (l.take i ++ l.drop (i + 1))).Perm (l.set i y) := by rw [e2]; exact List.perm_middle.symm
  obtain ⟨h1, h2⟩ := (h.perm p1).turn hs hy ho
  exact ⟨h1.perm p2, Step.of_perm h2 p1.symm p2⟩
theorem St.snoc {w w' : World} {y : Thing} {l : List Thing} (h : St w l) (hf : Fr (fun _ => False) w w') (hy : y.1 w') (ho : Ob y) (hn : ∀ k, y.2 k → w.heap.size ≤ k) : St w' (l ++ [y]) ∧ Step w w' (foot l) (foot (l ++ [y])) := by
  obtain ⟨h1, h2⟩ := h.new hf hy ho hn
  have p2 : (y :: l).Perm (l ++ [y]) := by
    have := (List.perm_append_comm (l₁ := [y]) (l₂ := l))
    simpa using this
  exact ⟨h1.perm p2, Step.of_perm h2 (List.Perm.refl _) p2⟩
theorem St.sub {w : World} {l m : List Thing} (h : St w l) (hs : m.Sublist l) : St w m := ⟨fun x hx => h.is x (hs.subset hx), h.ap.sublist hs⟩
theorem foot_sub {l m : List Thing} (hs : m.Sublist l) {k : Nat} (h : foot m k) : foot l k := by
  obtain ⟨x, hx, hk⟩ := h
  exact ⟨x, hs.subset hx, hk⟩
theorem Step.mono_foot {w w' : World} {S T T' : Nat → Prop} (h : Step w w' S T) (ht : ∀ k, T' k → T k) : Step w w' S T' := ⟨h.fr, fun k hk => h.foot k (ht k hk)⟩
end Go.Proofs.Ytopnnbhiehljlaa
