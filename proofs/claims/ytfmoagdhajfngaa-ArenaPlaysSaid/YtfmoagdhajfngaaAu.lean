/- Layer 17 (arena): a value through a cell's pointer; what stands apart. -/
import Derived.Test.YtfmoagdhajfngaaAp
set_option linter.unusedVariables false
set_option linter.unusedSimpArgs false
namespace Go.My
open Go.RowKit
variable {tA tC tP : TypeId} {B : Nat} {w : World} {p room : Nat} {u f : Value} {us : List Cl} {fs : List Nat}

/-- A value is laid through a cell's pointer. -/
theorem Ar.setVal (ty : Tys tA tC tP) (h : Ar tA tC tP B w p room u f us fs) {i b : Nat} {v : Value} {t : Bool} (hi : us[i]? = some ((b, v, t) : Cl)) (v' : Value) :
    Ar tA tC tP B (w.setCell ⟨b, 0, none⟩ v') p room u f (us.set i (b, v', t)) fs ∧ Fr (fun k => B ≤ k) w (w.setCell ⟨b, 0, none⟩ v') := by
  have hb := h.cell i b v t hi
  have hlt := (List.getElem?_eq_some_iff.1 hi).1
  have hoth : ∀ k, k ≠ b → (w.setCell ⟨b, 0, none⟩ v').heap[k]? = w.heap[k]? := fun k hk => by
    rw [Below.heap_setCell _ _ _ _ hk]
  have hnew : (w.setCell ⟨b, 0, none⟩ v').heap[b]? = some (.cells #[v', .bool t] tC (0, 0)) := by
    have h1 := block_setCell hb.1 (off := 0) v'
    simpa using h1
  have hptr : ptrs (us.set i (b, v', t)) = ptrs us := by
    have hg := (List.getElem?_eq_some_iff.1 hi).2
    unfold ptrs
    rw [List.map_set]
    apply List.ext_getElem?
    intro k
    by_cases hk : i = k
    · subst hk
      simp [hlt, hg]
    · simp [List.getElem?_set_ne hk]
  have hset : ∀ (k c : Nat) (y : Value) (s : Bool), (us.set i (b, v', t))[k]? = some ((c, y, s) : Cl) → (k = i ∧ c = b ∧ y = v' ∧ s = t) ∨ (k ≠ i ∧ us[k]? = some ((c, y, s) : Cl)) := by
    intro k c y s hk
    by_cases h1 : i = k
    · subst h1
      rw [List.getElem?_set_self hlt] at hk
      simp at hk
      exact .inl ⟨rfl, hk.1.symm, hk.2.1.symm, hk.2.2.symm⟩
    · rw [List.getElem?_set_ne h1] at hk
      exact .inr ⟨fun e => h1 e.symm, hk⟩
  have hown : (w.setCell ⟨b, 0, none⟩ v').ownsRow B tP 1 u us.length (ptrs us) := own_same h.own fun g hg => by
    obtain ⟨cur, hc⟩ := own_ty h.own hg
    exact hoth g (ne_of_ty hc hb.1 (Ne.symm ty.cp))
  refine ⟨⟨(hoth p (ne_of_ty h.hp hb.1 ty.ac)).trans h.hp, by rw [hptr]; simpa using hown, own_same h.ofs fun g hg => ?_, ?_, ?_, by simpa using h.le, h.pB, h.big⟩, (Fr.refl _ w).setCell _ _ (.inl hb.2)⟩
  · obtain ⟨cur, hc⟩ := own_ty h.ofs hg
    exact hoth g (ne_of_ty hc hb.1 (Ne.symm ty.c3))
  · intro k c y s hk
    rcases hset k c y s hk with ⟨rfl, rfl, rfl, rfl⟩ | ⟨hne, hk2⟩
    · exact ⟨hnew, hb.2⟩
    · have hc := h.cell k c y s hk2
      have hcb : c ≠ b := by
        rintro rfl
        exact hne (h.nodup k i _ _ _ _ _ hk2 hi)
      exact ⟨(hoth c hcb).trans hc.1, hc.2⟩
  · intro k1 k2 c y s y2 s2 h1 h2
    rcases hset k1 c y s h1 with ⟨e1, e2, e3, e4⟩ | ⟨hne, g1⟩ <;> rcases hset k2 c y2 s2 h2 with ⟨e5, e6, e7, e8⟩ | ⟨hne2, g2⟩
    · exact e1.trans e5.symm
    · rw [e2] at g2
      exact absurd (h.nodup _ _ _ _ _ _ _ g2 hi) hne2
    · rw [e6] at g1
      exact absurd (h.nodup _ _ _ _ _ _ _ g1 hi) hne
    · exact h.nodup _ _ _ _ _ _ _ g1 g2


theorem Ar.setVal_foot (w : World) {i b : Nat} {v : Value} {t : Bool} (hi : us[i]? = some ((b, v, t) : Cl)) (v' : Value) :
    Step w (w.setCell ⟨b, 0, none⟩ v') (Foot p u f us) (Foot p u f (us.set i (b, v', t))) := by
  have hb : Foot p u f us b := .inr (.inr (.inr ⟨i, v, t, hi⟩))
  refine ⟨(Fr.refl _ w).setCell _ _ (.inl hb), ?_⟩
  rintro k (h | h | h | ⟨j, y, s, hj⟩)
  · exact .inl (.inl h)
  · exact .inl (.inr (.inl h))
  · exact .inl (.inr (.inr (.inl h)))
  · by_cases hij : i = j
    · subst hij
      have hlt := (List.getElem?_eq_some_iff.1 hi).1
      rw [List.getElem?_set_self hlt] at hj
      simp at hj
      rw [← hj.1]
      exact .inl hb
    · rw [List.getElem?_set_ne hij] at hj
      exact .inl (.inr (.inr (.inr ⟨j, y, s, hj⟩)))
/-- Where none of its blocks turned, an arena is what it was. -/
theorem Ar.apart {w' : World} (h : Ar tA tC tP B w p room u f us fs) {S : Nat → Prop} (hf : Fr S w w') (hS : ∀ k, S k → ¬ Foot p u f us k) : Ar tA tC tP B w' p room u f us fs := by
  have keep : ∀ k, k < w.heap.size → Foot p u f us k → w'.heap[k]? = w.heap[k]? := fun k hk hF => hf.block k hk (fun hs => hS k hs hF)
  refine ⟨(keep _ (lt_of_block h.hp) (.inl rfl)).trans h.hp, own_same h.own ?_, own_same h.ofs ?_, ?_, h.nodup, h.le, h.pB, h.big⟩
  · intro g hg
    obtain ⟨cur, hc⟩ := own_ty h.own hg
    exact keep _ (lt_of_block hc) (.inr (.inl hg))
  · intro g hg
    obtain ⟨cur, hc⟩ := own_ty h.ofs hg
    exact keep _ (lt_of_block hc) (.inr (.inr (.inl hg)))
  · intro i b v t hi
    have := h.cell i b v t hi
    exact ⟨(keep _ (lt_of_block this.1) (.inr (.inr (.inr ⟨i, v, t, hi⟩)))).trans this.1, this.2⟩
end Go.My
