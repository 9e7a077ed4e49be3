/- Layer 18 (context), the plain law: what is learnt. -/
import Derived.Test.YtopnnbhiehljlaaCxM
namespace Go.Cx
set_option linter.unusedVariables false
open Go.Fq (T)

/-- Contexts: the order, the cells, the nodes in the order in which they were taken, the last bytes, how often all was forgotten. -/
structure C where
  ord : Nat
  cells : Nat
  nds : List Nd
  hist : List UInt8
  restarts : Nat
/-- The last k bytes. -/
def suf (h : List UInt8) (k : Nat) : List UInt8 := h.drop (h.length - k)
theorem suf_zero (h : List UInt8) : suf h 0 = [] := by simp [suf]
theorem suf_length {h : List UInt8} {k : Nat} (hk : k ≤ h.length) : (suf h k).length = k := by simp [suf]; omega
theorem suf_succ {h : List UInt8} {k : Nat} (hk : k < h.length) : suf h (k + 1) = h.getD (h.length - (k + 1)) 0 :: suf h k := by
  unfold suf
  have hlt : h.length - (k + 1) < h.length := by omega
  rw [List.drop_eq_getElem_cons hlt, show h.length - (k + 1) + 1 = h.length - k by omega]
  simp [List.getD, List.getElem?_eq_getElem hlt]
theorem suf_tail {h : List UInt8} {k : Nat} (hk : k < h.length) : (suf h (k + 1)).tail = suf h k ∧ suf h (k + 1) ≠ [] := by
  rw [suf_succ hk]
  exact ⟨rfl, by simp⟩
/-- How many of the last bytes count. -/
def C.m (c : C) : Nat := min c.ord c.hist.length
def sums (l : List Nd) : Nat := (l.map fun n => n.tab.s.length).sum
/-- The cells that are used. -/
def used (l : List Nd) : Nat := l.length + sums l
def C.left (c : C) : Nat := c.cells - used c.nds
/-- From k on: the first that has no node. -/
def upG (f : Nat → Bool) : Nat → Nat → Nat
  | 0, k => k
  | n + 1, k => if f k then upG f n (k + 1) else k
theorem upG_spec (f : Nat → Bool) : ∀ n k, k ≤ upG f n k ∧ upG f n k ≤ k + n ∧ (∀ j, k ≤ j → j < upG f n k → f j = true) ∧ (upG f n k < k + n → f (upG f n k) = false)
  | 0, k => ⟨Nat.le_refl _, Nat.le_refl _, fun j h1 h2 => by unfold upG at h2; omega, fun h => by unfold upG at h; omega⟩
  | n + 1, k => by
    unfold upG
    by_cases h : f k = true
    · rw [if_pos h]
      obtain ⟨h1, h2, h3, h4⟩ := upG_spec f n (k + 1)
      refine ⟨by omega, by omega, fun j hj hj2 => ?_, fun hl => h4 (by omega)⟩
      rcases Nat.lt_or_ge k j with hk | hk
      · exact h3 j hk hj2
      · obtain rfl : j = k := by omega
        exact h
    · rw [if_neg h]
      exact ⟨Nat.le_refl _, by omega, fun j h1 h2 => by omega, fun _ => by simpa using h⟩
/-- Of how many texts of the last bytes there is a node, from none on. -/
def C.plen (c : C) : Nat := upG (fun k => has c.nds (suf c.hist k)) (c.m + 1) 0
def need1 (l : List Nd) (t : List UInt8) (x : UInt8) : Nat := if has l t then (if (look l t).s.idxOf x < (look l t).s.length then 0 else 1) else 2
/-- What so many texts, from one on, take. -/
def needs (l : List Nd) (h : List UInt8) (x : UInt8) (from_ : Nat) : Nat → Nat
  | 0 => 0
  | j + 1 => needs l h x from_ j + need1 l (suf h (from_ + j)) x
def lrn (l : List Nd) (h : List UInt8) (x : UInt8) (from_ : Nat) : Nat → List Nd
  | 0 => l
  | j + 1 => addAt (lrn l h x from_ j) (suf h (from_ + j)) x
def trim (ord : Nat) (h : List UInt8) : List UInt8 := h.drop (h.length - ord)
theorem trim_length (ord : Nat) (h : List UInt8) : (trim ord h).length = min ord h.length := by simp [trim]; omega
theorem suf_trim (ord : Nat) (h : List UInt8) (k : Nat) (hk : k ≤ ord) : suf (trim ord h) k = suf h k := by
  unfold suf
  rw [trim_length]
  unfold trim
  rw [List.drop_drop]
  congr 1
  omega
/-- Nothing is known any more. -/
def C.forget (c : C) : C := { c with nds := [], hist := [], restarts := c.restarts + 1 }
def C.put (c : C) (x : UInt8) (from_ : Nat) : C := { c with nds := lrn c.nds c.hist x from_ (c.m + 1 - from_), hist := trim c.ord (c.hist ++ [x]) }
def C.learn (c : C) (x : UInt8) (from_ : Nat) : C :=
  if c.left < needs c.nds c.hist x from_ (c.m + 1 - from_) then c.forget.put x 0 else c.put x from_
def C.new (ord cells : Int) : C := ⟨(min (max ord 0) 16).toNat, (min (max cells 64) 1048576).toNat, [], [], 0⟩

/-- What holds of nodes. -/
structure Good (l : List Nd) : Prop where
  nodup : (texts l).Nodup
  tails : ∀ i, i < l.length → txtAt l i = [] ∨ ∃ j, j < i ∧ txtAt l j = (txtAt l i).tail
  ok : ∀ i, i < l.length → (tabAt l i).Ok
structure C.Ok (c : C) : Prop where
  good : Good c.nds
  room : used c.nds ≤ c.cells
  hl : c.hist.length ≤ c.ord
  ord16 : c.ord ≤ 16
  lo : 64 ≤ c.cells
  hi : c.cells ≤ 1048576
theorem Good.nil : Good [] := ⟨List.nodup_nil, fun i h => absurd h (Nat.not_lt_zero _), fun i h => absurd h (Nat.not_lt_zero _)⟩
theorem C.Ok.new (ord cells : Int) : (C.new ord cells).Ok :=
  ⟨Good.nil, Nat.zero_le _, Nat.zero_le _, by unfold C.new; dsimp only; omega, by unfold C.new; dsimp only; omega, by unfold C.new; dsimp only; omega⟩
theorem Good.first {l : List Nd} (h : Good l) (h0 : 0 < l.length) : txtAt l 0 = [] := by
  rcases h.tails 0 h0 with h1 | ⟨j, hj, _⟩
  · exact h1
  · omega
theorem Good.root {l : List Nd} (h : Good l) : has l [] = decide (0 < l.length) := by
  by_cases h0 : 0 < l.length
  · rw [decide_eq_true h0]
    exact has_iff.2 ⟨0, h0, h.first h0⟩
  · rw [decide_eq_false h0]
    unfold has
    exact decide_eq_false (by omega)
theorem Good.up {l : List Nd} (h : Good l) {t : List UInt8} (ht : has l t = true) (hne : t ≠ []) : has l t.tail = true := by
  obtain ⟨i, hi, rfl⟩ := has_iff.1 ht
  rcases h.tails i hi with h1 | ⟨j, hj, h2⟩
  · exact absurd h1 hne
  · exact has_iff.2 ⟨j, by omega, h2⟩
theorem Good.look_ok {l : List Nd} (h : Good l) (t : List UInt8) : (look l t).Ok := by
  unfold look
  split
  · next ht => exact h.ok _ (place_txt ht).1
  · exact T.Ok.none_
theorem addAt_txt (l : List Nd) (t : List UInt8) (x : UInt8) (i : Nat) (hi : i < l.length) : txtAt (addAt l t x) i = txtAt l i := by
  have h1 : i < (addAt l t x).length := by rw [addAt_length]; split <;> omega
  have h2 := addAt_texts l t x
  have e1 : txtAt (addAt l t x) i = ((texts (addAt l t x))[i]'(by rw [texts_length]; exact h1)) := by rw [txtAt_get h1]; simp [texts]
  have e2 : txtAt l i = ((texts l)[i]'(by rw [texts_length]; exact hi)) := by rw [txtAt_get hi]; simp [texts]
  rw [e1, e2]
  have h3 : (texts (addAt l t x))[i]? = (texts l)[i]? := by
    rw [h2]
    split
    · rfl
    · rw [List.getElem?_append_left (by rw [texts_length]; exact hi)]
  have h4 : i < (texts (addAt l t x)).length := by rw [texts_length]; exact h1
  have h5 : i < (texts l).length := by rw [texts_length]; exact hi
  rw [List.getElem?_eq_getElem h4, List.getElem?_eq_getElem h5] at h3
  exact Option.some.inj h3
theorem addAt_new (l : List Nd) (t : List UInt8) (x : UInt8) (h : has l t = false) : txtAt (addAt l t x) l.length = t ∧ tabAt (addAt l t x) l.length = T.none_.add x := by
  unfold addAt
  rw [h, if_neg Bool.false_ne_true]
  unfold txtAt tabAt
  simp [List.getD]
theorem Good.addAt {l : List Nd} (h : Good l) (t : List UInt8) (x : UInt8) (ht : t = [] ∨ has l t.tail = true) : Good (addAt l t x) := by
  by_cases hh : has l t = true
  · refine ⟨by rw [addAt_texts, if_pos hh]; exact h.nodup, fun i hi => ?_, fun i hi => ?_⟩
    · rw [addAt_length, if_pos hh] at hi
      rw [addAt_txt _ _ _ _ hi]
      rcases h.tails i hi with h1 | ⟨j, hj, h2⟩
      · exact .inl h1
      · exact .inr ⟨j, hj, by rw [addAt_txt _ _ _ _ (by omega)]; exact h2⟩
    · rw [addAt_length, if_pos hh] at hi
      unfold Cx.addAt
      rw [if_pos hh]
      unfold tabAt
      rw [List.getD_eq_getElem?_getD, List.getElem?_set]
      split
      · rw [if_pos (by omega)]
        exact (h.ok _ (place_txt hh).1).add x
      · rw [← List.getD_eq_getElem?_getD]
        exact h.ok i hi
  · have hh : has l t = false := by simpa using hh
    have hni : t ∉ texts l := fun hm => by
      have : has l t = true := by unfold has place; rw [decide_eq_true_eq, ← texts_length]; exact List.idxOf_lt_length_iff.2 hm
      rw [hh] at this
      cases this
    have hn := addAt_new l t x hh
    refine ⟨by rw [addAt_texts, hh, if_neg Bool.false_ne_true, List.nodup_append]; exact ⟨h.nodup, by simp, fun a ha b hb e => by simp at hb; subst hb; subst e; exact hni ha⟩, fun i hi => ?_, fun i hi => ?_⟩
    · rw [addAt_length, hh, if_neg Bool.false_ne_true] at hi
      rcases Nat.lt_or_ge i l.length with h1 | h1
      · rw [addAt_txt _ _ _ _ h1]
        rcases h.tails i h1 with h2 | ⟨j, hj, h2⟩
        · exact .inl h2
        · exact .inr ⟨j, hj, by rw [addAt_txt _ _ _ _ (by omega)]; exact h2⟩
      · obtain rfl : i = l.length := by omega
        rw [hn.1]
        rcases ht with h2 | h2
        · exact .inl h2
        · obtain ⟨j, hj, h3⟩ := has_iff.1 h2
          exact .inr ⟨j, hj, by rw [addAt_txt _ _ _ _ hj]; exact h3⟩
    · rw [addAt_length, hh, if_neg Bool.false_ne_true] at hi
      rcases Nat.lt_or_ge i l.length with h1 | h1
      · unfold Cx.addAt
        rw [hh, if_neg Bool.false_ne_true]
        unfold tabAt
        rw [List.getD_eq_getElem?_getD, List.getElem?_append_left h1, ← List.getD_eq_getElem?_getD]
        exact h.ok i h1
      · obtain rfl : i = l.length := by omega
        rw [hn.2]
        exact T.Ok.none_.add x
end Go.Cx
