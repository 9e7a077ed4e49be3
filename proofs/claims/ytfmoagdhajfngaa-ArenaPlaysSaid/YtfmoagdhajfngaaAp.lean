/- Walks of layer 17 (arena): what is not free cannot .., no arena, Clear. -/
import Derived.Test.YtfmoagdhajfngaaAw2
set_option linter.unusedVariables false
set_option linter.unusedSimpArgs false
namespace Go.My
open Go.RowKit
variable {tA tC tP : TypeId} {B : Nat} {w : World} {p room : Nat} {u f : Value} {us : List Cl} {fs : List Nat}

/-- The arena's own blocks. -/
def Foot (p : Nat) (u f : Value) (us : List Cl) (k : Nat) : Prop := k = p ∨ u.ownBlock = some k ∨ f.ownBlock = some k ∨ ∃ (i : Nat) (v : Value) (t : Bool), us[i]? = some ((k, v, t) : Cl)

/-- Outside of its own blocks nothing turns; what it has is in what it had, or new. -/
structure Step (w w' : World) (S S' : Nat → Prop) : Prop where
  fr : Fr S w w'
  foot : ∀ k, S' k → S k ∨ w.heap.size ≤ k
theorem Step.trans {a b c : World} {S T U : Nat → Prop} (h : Step a b S T) (k : Step b c T U) : Step a c S U :=
  ⟨h.fr.trans k.fr h.foot, fun i hi => (k.foot i hi).elim (h.foot i) (fun h2 => .inr (Nat.le_trans h.fr.size h2))⟩
theorem Step.drewN {a b : World} {S T : Nat → Prop} (h : Step a b S T) (n : Nat) : Step a (b.drewN n) S T := ⟨h.fr.drewN n, h.foot⟩
theorem Step.refl (w : World) (S : Nat → Prop) : Step w w S S := ⟨Fr.refl _ _, fun _ h => .inl h⟩

theorem Ar.took_foot (h : Ar tA tC tP B w p room u f us fs) (o1 o2 : Obj) (val : Value) (W3 : World) (g n cap : Nat) (hgrow : ((w.alloc o1).alloc o2).grownBy W3 u.ownBlock) (hat : u.ownBlock = some g ∨ g = w.heap.size + 2) :
    Step w (W3.setCell ⟨p, 1, none⟩ (.slice (some ⟨g, 0, none⟩) n cap)) (Foot p u f us) (Foot p (.slice (some ⟨g, 0, none⟩) n cap) f (us ++ [(w.heap.size, val, true)])) := by
  refine ⟨((((Fr.refl _ w).alloc _).alloc _).grown hgrow (fun k hk => .inl (.inr (.inl hk)))).setCell _ _ (.inl (.inl rfl)), ?_⟩
  rintro k (rfl | hk | hk | ⟨i, v, t, hi⟩)
  · exact .inl (.inl rfl)
  · have hk : some g = some k := hk
    injection hk with hk
    subst hk
    rcases hat with h1 | h1
    · exact .inl (.inr (.inl h1))
    · exact .inr (by omega)
  · exact .inl (.inr (.inr (.inl hk)))
  · by_cases hlt : i < us.length
    · rw [List.getElem?_append_left hlt] at hi
      exact .inl (.inr (.inr (.inr ⟨i, v, t, hi⟩)))
    · rw [List.getElem?_append_right (by omega)] at hi
      obtain ⟨j, hj⟩ : ∃ j, i - us.length = j := ⟨_, rfl⟩
      rw [hj] at hi
      match j, hi with
      | 0, hi => simp at hi; exact .inr (by omega)
      | j + 1, hi => simp at hi

theorem Ar.put_foot (w : World) {i b : Nat} {v : Value} {t : Bool} (hi : us[i]? = some ((b, v, t) : Cl)) (v' : Value) (t' : Bool) :
    Step w ((w.setCell ⟨b, 0, none⟩ v').setCell ⟨b, 1, none⟩ (.bool t')) (Foot p u f us) (Foot p u f (us.set i (b, v', t'))) := by
  have hb : Foot p u f us b := .inr (.inr (.inr ⟨i, v, t, hi⟩))
  refine ⟨((Fr.refl _ w).setCell _ _ (.inl hb)).setCell _ _ (.inl hb), ?_⟩
  rintro k (h | h | h | ⟨j, y, s, hj⟩)
  · exact .inl (.inl h)
  · exact .inl (.inr (.inl h))
  · exact .inl (.inr (.inr (.inl h)))
  · by_cases hij : i = j
    · subst hij
      have hlt := (List.getElem?_eq_some_iff.1 hi).1
      rw [List.getElem?_set_self hlt] at hj
      simp at hj
      rw [← hj.1]
      exact .inl hb
    · rw [List.getElem?_set_ne hij] at hj
      exact .inl (.inr (.inr (.inr ⟨j, y, s, hj⟩)))

theorem Ar.freed_foot (w W3 : World) (o1 : Obj) (g n cap : Nat) (hgrow : (w.alloc o1).grownBy W3 f.ownBlock) (hat : f.ownBlock = some g ∨ g = w.heap.size + 1) :
    Step w (W3.setCell ⟨p, 2, none⟩ (.slice (some ⟨g, 0, none⟩) n cap)) (Foot p u f us) (Foot p u (.slice (some ⟨g, 0, none⟩) n cap) us) := by
  refine ⟨(((Fr.refl _ w).alloc _).grown hgrow (fun k hk => .inl (.inr (.inr (.inl hk))))).setCell _ _ (.inl (.inl rfl)), ?_⟩
  rintro k (h | h | h | h)
  · exact .inl (.inl h)
  · exact .inl (.inr (.inl h))
  · have hk : some g = some k := h
    injection hk with hk
    subst hk
    rcases hat with h1 | h1
    · exact .inl (.inr (.inr (.inl h1)))
    · exact .inr (by omega)
  · exact .inl (.inr (.inr (.inr h)))

theorem Ar.pop_foot (w : World) (g n m cap : Nat) :
    Step w (w.setCell ⟨p, 2, none⟩ (.slice (some ⟨g, 0, none⟩) n cap)) (Foot p u (.slice (some ⟨g, 0, none⟩) m cap) us) (Foot p u (.slice (some ⟨g, 0, none⟩) n cap) us) :=
  ⟨(Fr.refl _ w).setCell _ _ (.inl (.inl rfl)), fun _ h => .inl h⟩

/-- Everything is given up. -/
theorem Ar.clear (ty : Tys tA tC tP) (h : Ar tA tC tP B w p room u f us fs) :
    Ar tA tC tP B ((w.setCell ⟨p, 1, none⟩ (.slice none 0 0)).setCell ⟨p, 2, none⟩ (.slice none 0 0)) p room (.slice none 0 0) (.slice none 0 0) [] [] ∧
      Step w ((w.setCell ⟨p, 1, none⟩ (.slice none 0 0)).setCell ⟨p, 2, none⟩ (.slice none 0 0)) (Foot p u f us) (Foot p (.slice none 0 0) (.slice none 0 0) []) := by
  have h1 := block_setCell h.hp (off := 1) (.slice none 0 0)
  have h2 := block_setCell h1 (off := 2) (.slice none 0 0)
  refine ⟨⟨by simpa using h2, World.ownsRow_nil _ _ _ _, World.ownsRow_nil _ _ _ _, fun i b v t h => by simp at h, fun i j b v t v' t' h => by simp at h, Nat.zero_le _, h.pB, h.big⟩,
    ((Fr.refl _ w).setCell _ _ (.inl (.inl rfl))).setCell _ _ (.inl (.inl rfl)), ?_⟩
  rintro k (h | h | h | ⟨i, v, t, hi⟩)
  · exact .inl (.inl h)
  · exact absurd h (by simp [Value.ownBlock])
  · exact absurd h (by simp [Value.ownBlock])
  · simp at hi
end Go.My
namespace Go.Proofs.Ytfmoagdhajfngaa
open Go.RowKit Go.My

set_option maxRecDepth 100000 in
theorem i_free_no (p : Nat) (i : Int) (w : World) (hat : Calls Try.prog 28 #[.pointer (some ⟨p, 0, none⟩), .int .i64 i] w fun e w' => e = .returned (.pointer none) ∧ w' = w) :
    Calls Try.prog 27 #[.pointer (some ⟨p, 0, none⟩), .int .i64 i] w fun e w' => e = .returned (.bool false) ∧ w' = w := by
  have Hat := Lib.hid hat
  clear hat
  go_enter Try.func27, Try.ntmps27
  go_wp2_with (go_at_call 28; refine Hat.out.mono ?_; rintro e w1 ⟨rfl, hw⟩; rw [hw]; clear hw)
  go_ret
  exact ⟨rfl, rfl⟩

set_option maxRecDepth 100000 in
theorem nil_left (w : World) : Calls Try.prog 31 #[.pointer none] w fun e w' => e = .returned (.int .i64 0) ∧ w' = w := by
  go_enter Try.func31, Try.ntmps31
  go_wp2
  go_ret
  exact ⟨rfl, rfl⟩
set_option maxRecDepth 100000 in
theorem nil_at (i : Int) (w : World) : Calls Try.prog 28 #[.pointer none, .int .i64 i] w fun e w' => e = .returned (.pointer none) ∧ w' = w := by
  go_enter Try.func28, Try.ntmps28
  go_wp2
  go_ret
  exact ⟨rfl, rfl⟩
set_option maxRecDepth 100000 in
theorem nil_free (i : Int) (w : World) : Calls Try.prog 27 #[.pointer none, .int .i64 i] w fun e w' => e = .returned (.bool false) ∧ w' = w := by
  go_enter Try.func27, Try.ntmps27
  go_wp2_with (go_at_call 28; refine (nil_at _ _).mono ?_; rintro e w1 ⟨rfl, hw⟩; rw [hw]; clear hw)
  go_ret
  exact ⟨rfl, rfl⟩
set_option maxRecDepth 100000 in
theorem nil_take (x : Int) (w : World) : Calls Try.prog 30 #[.pointer none, .int .i64 x] w fun e w' => e = .returned (.tuple #[.int .i64 0, .bool false]) ∧ w' = w := by
  go_enter Try.func30, Try.ntmps30
  go_wp2
  go_ret2
  exact ⟨rfl, rfl⟩
set_option maxRecDepth 100000 in
theorem nil_clear (w : World) : Calls Try.prog 29 #[.pointer none] w fun e w' => e = .returned (.tuple #[]) ∧ w' = w := by
  go_enter Try.func29, Try.ntmps29
  go_wp2
  go_end0
  exact ⟨rfl, rfl⟩
set_option maxRecDepth 100000 in
theorem i_clear {B : Nat} {w : World} {p room : Nat} {u f : Value} {us : List Cl} {fs : List Nat} (h : Ar 76 78 79 B w p room u f us fs) :
    Calls Try.prog 29 #[.pointer (some ⟨p, 0, none⟩)] w fun e w' => e = .returned (.tuple #[]) ∧ Ar 76 78 79 B w' p room (.slice none 0 0) (.slice none 0 0) [] [] ∧ Step w w' (Foot p u f us) (Foot p (.slice none 0 0) (.slice none 0 0) []) := by
  obtain ⟨c0, c1, c2⟩ := h.cells
  have f1 := free_of h.hp 1
  have f2 := free_of h.hp 2
  have hcl := Ar.clear i_tys h
  have Hcl := Lib.hid hcl
  clear hcl h
  go_enter Try.func29, Try.ntmps29
  go_wp2
  go_end0
  exact ⟨rfl, Hcl.out⟩
end Go.Proofs.Ytfmoagdhajfngaa
