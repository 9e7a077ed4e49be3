/- Layer 18 (context), the plain law: nodes by their texts. -/
import Derived.Test.YtopnnbhiehljlaaFq
namespace Go.Cx
set_option linter.unusedVariables false
open Go.Fq (T)

/-- A text, and what stood behind it. -/
structure Nd where
  txt : List UInt8
  tab : T
def texts (l : List Nd) : List (List UInt8) := l.map (·.txt)
/-- Its place; the list's length where there is none. -/
def place (l : List Nd) (t : List UInt8) : Nat := (texts l).idxOf t
def has (l : List Nd) (t : List UInt8) : Bool := decide (place l t < l.length)
/-- Its cell's number; none: 0. -/
def idOf (l : List Nd) (t : List UInt8) : Nat := if has l t then place l t + 1 else 0
def tabAt (l : List Nd) (i : Nat) : T := (l.getD i ⟨[], T.none_⟩).tab
def txtAt (l : List Nd) (i : Nat) : List UInt8 := (l.getD i ⟨[], T.none_⟩).txt
/-- The table of a text (where there is none: nothing). -/
def look (l : List Nd) (t : List UInt8) : T := if has l t then tabAt l (place l t) else T.none_

theorem texts_length (l : List Nd) : (texts l).length = l.length := by simp [texts]
theorem txtAt_get {l : List Nd} {i : Nat} (h : i < l.length) : txtAt l i = l[i].txt := by simp [txtAt, List.getD, List.getElem?_eq_getElem h]
theorem tabAt_get {l : List Nd} {i : Nat} (h : i < l.length) : tabAt l i = l[i].tab := by simp [tabAt, List.getD, List.getElem?_eq_getElem h]
theorem has_iff {l : List Nd} {t : List UInt8} : has l t = true ↔ ∃ i, i < l.length ∧ txtAt l i = t := by
  unfold has place
  rw [decide_eq_true_eq]
  constructor
  · intro h
    have h2 : (texts l).idxOf t < (texts l).length := by rw [texts_length]; exact h
    refine ⟨_, h, ?_⟩
    have := List.getElem_idxOf h2
    simp only [texts, List.getElem_map] at this
    exact (txtAt_get h).trans this
  · rintro ⟨i, hi, rfl⟩
    have : txtAt l i ∈ texts l := by rw [txtAt_get hi]; exact List.mem_map.2 ⟨l[i], List.getElem_mem hi, rfl⟩
    have := List.idxOf_lt_length_iff.2 this
    rwa [texts_length] at this
theorem place_txt {l : List Nd} {t : List UInt8} (h : has l t = true) : place l t < l.length ∧ txtAt l (place l t) = t := by
  have h1 : place l t < l.length := by simpa [has] using h
  refine ⟨h1, ?_⟩
  have h2 : (texts l).idxOf t < (texts l).length := by rw [texts_length]; exact h1
  have := List.getElem_idxOf h2
  simp only [texts, List.getElem_map] at this
  exact (txtAt_get h1).trans this
theorem place_of {l : List Nd} (hn : (texts l).Nodup) {i : Nat} (hi : i < l.length) : place l (txtAt l i) = i := by
  have h2 : i < (texts l).length := by rw [texts_length]; exact hi
  have := hn.idxOf_getElem i h2
  rw [txtAt_get hi]
  simpa [texts, place] using this
theorem idOf_of {l : List Nd} (hn : (texts l).Nodup) {i : Nat} (hi : i < l.length) : idOf l (txtAt l i) = i + 1 := by
  unfold idOf
  rw [if_pos (has_iff.2 ⟨i, hi, rfl⟩), place_of hn hi]
theorem idOf_none {l : List Nd} {t : List UInt8} (h : has l t = false) : idOf l t = 0 := by unfold idOf; rw [h]; rfl
theorem idOf_le (l : List Nd) (t : List UInt8) : idOf l t ≤ l.length := by
  unfold idOf
  split
  · next h => have := (place_txt h).1; omega
  · omega
theorem idOf_pos {l : List Nd} {t : List UInt8} : 0 < idOf l t ↔ has l t = true := by
  unfold idOf
  split
  · next h => simp [h]
  · next h => simp [h]

/-- A sign more behind a text. -/
def addAt (l : List Nd) (t : List UInt8) (x : UInt8) : List Nd :=
  if has l t then l.set (place l t) ⟨t, (tabAt l (place l t)).add x⟩ else l ++ [⟨t, T.none_.add x⟩]
theorem addAt_texts (l : List Nd) (t : List UInt8) (x : UInt8) : texts (addAt l t x) = if has l t then texts l else texts l ++ [t] := by
  unfold addAt
  split
  · next h =>
    obtain ⟨h1, h2⟩ := place_txt h
    unfold texts at *
    apply List.ext_getElem
    · simp
    · intro i hi1 hi2
      simp only [List.map_set, List.getElem_set]
      split
      · next e => subst e; rw [txtAt_get h1] at h2; simpa using h2.symm
      · simp
  · simp [texts]
theorem addAt_has (l : List Nd) (t u : List UInt8) (x : UInt8) : has (addAt l t x) u = (has l u || (u == t)) := by
  have e : ∀ (l : List Nd) u, has l u = decide (u ∈ texts l) := fun l u => by
    unfold has place
    rw [← texts_length]
    exact decide_eq_decide.2 List.idxOf_lt_length_iff
  rw [e, e, addAt_texts]
  split
  · next h =>
    rw [e] at h
    have h : t ∈ texts l := of_decide_eq_true h
    by_cases hu : u = t
    · subst hu; simp [h]
    · simp [hu]
  · by_cases hu : u = t
    · subst hu; simp
    · simp [hu]
theorem addAt_length (l : List Nd) (t : List UInt8) (x : UInt8) : (addAt l t x).length = if has l t then l.length else l.length + 1 := by
  unfold addAt
  split <;> simp
theorem addAt_place (l : List Nd) (t u : List UInt8) (x : UInt8) (h : has l u = true) : place (addAt l t x) u = place l u := by
  unfold place
  rw [addAt_texts]
  split
  · rfl
  · have := (place_txt h).1
    rw [List.idxOf_append, if_pos (List.idxOf_lt_length_iff.1 (by rw [texts_length]; exact this))]
theorem look_other (l : List Nd) (t u : List UInt8) (x : UInt8) (hn : (texts l).Nodup) (hu : u ≠ t) : look (addAt l t x) u = look l u := by
  have hb : (u == t) = false := by simpa using hu
  unfold look
  rw [addAt_has, hb, Bool.or_false]
  by_cases h : has l u = true
  · rw [if_pos h, if_pos h, addAt_place _ _ _ _ h]
    obtain ⟨h1, h2⟩ := place_txt h
    unfold addAt
    split
    · next ht =>
      have hne : place l t ≠ place l u := fun e => hu (by rw [← h2, ← (place_txt ht).2, e])
      unfold tabAt
      rw [List.getD_eq_getElem?_getD, List.getElem?_set_ne hne, ← List.getD_eq_getElem?_getD]
    · unfold tabAt
      rw [List.getD_eq_getElem?_getD, List.getElem?_append_left h1, ← List.getD_eq_getElem?_getD]
  · rw [if_neg h, if_neg h]
theorem look_same (l : List Nd) (t : List UInt8) (x : UInt8) : look (addAt l t x) t = (look l t).add x := by
  have hb : (t == t) = true := by simp
  unfold look
  rw [addAt_has, hb, Bool.or_true, if_pos rfl]
  by_cases h : has l t = true
  · rw [if_pos h, addAt_place _ _ _ _ h]
    obtain ⟨h1, h2⟩ := place_txt h
    unfold addAt
    rw [if_pos h]
    unfold tabAt
    rw [List.getD_eq_getElem?_getD, List.getElem?_set_self h1]
    rfl
  · rw [if_neg h]
    unfold addAt
    rw [if_neg h]
    have hp : place (l ++ [⟨t, T.none_.add x⟩]) t = l.length := by
      have hni : t ∉ texts l := fun hm => h (by unfold has place; rw [decide_eq_true_eq, ← texts_length]; exact List.idxOf_lt_length_iff.2 hm)
      unfold place
      rw [show texts (l ++ [⟨t, T.none_.add x⟩]) = texts l ++ [t] by simp [texts], List.idxOf_append, if_neg hni, texts_length]
      simp
    rw [hp]
    unfold tabAt
    rw [List.getD_eq_getElem?_getD, List.getElem?_append_right (Nat.le_refl _), Nat.sub_self]
    rfl

/-- The greatest number up to n of a cell whose text is one sign longer than t. -/
def kid (l : List Nd) (t : List UInt8) : Nat → Nat
  | 0 => 0
  | n + 1 => if txtAt l n ≠ [] ∧ (txtAt l n).tail = t then n + 1 else kid l t n
theorem kid_le (l : List Nd) (t : List UInt8) : ∀ n, kid l t n ≤ n
  | 0 => Nat.le_refl _
  | n + 1 => by
    unfold kid
    split
    · exact Nat.le_refl _
    · have := kid_le l t n; omega
theorem kid_is (l : List Nd) (t : List UInt8) : ∀ n, kid l t n ≠ 0 → txtAt l (kid l t n - 1) ≠ [] ∧ (txtAt l (kid l t n - 1)).tail = t
  | 0, h => absurd rfl h
  | n + 1, h => by
    unfold kid at h ⊢
    split
    · next hc => exact hc
    · next hc => rw [if_neg hc] at h; exact kid_is l t n h
/-- No cell between them. -/
theorem kid_gap (l : List Nd) (t : List UInt8) : ∀ n i, kid l t n ≤ i → i < n → ¬ (txtAt l i ≠ [] ∧ (txtAt l i).tail = t)
  | 0, i, _, h => by omega
  | n + 1, i, h1, h2 => by
    unfold kid at h1
    split at h1
    · omega
    · next hc =>
      rcases Nat.lt_or_ge i n with h3 | h3
      · exact kid_gap l t n i h1 h3
      · obtain rfl : i = n := by omega
        exact hc
theorem kid_more (l m : List Nd) (t : List UInt8) : ∀ n, n ≤ l.length → kid (l ++ m) t n = kid l t n
  | 0, _ => rfl
  | n + 1, h => by
    have e : txtAt (l ++ m) n = txtAt l n := by unfold txtAt; rw [List.getD_eq_getElem?_getD, List.getElem?_append_left (by omega), ← List.getD_eq_getElem?_getD]
    unfold kid
    rw [e, kid_more l m t n (by omega)]
theorem kid_texts (l m : List Nd) (t : List UInt8) (h : ∀ i, txtAt l i = txtAt m i) : ∀ n, kid l t n = kid m t n
  | 0 => rfl
  | n + 1 => by unfold kid; rw [h n, kid_texts l m t h n]
end Go.Cx
