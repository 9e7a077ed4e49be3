/- Layer 5 (freq), the plain law: signs by how often they were seen. -/
import Derived.Test.YtopnnbhiehljlaaRcO
namespace Go.Fq
set_option linter.unusedVariables false
open Go.Rc

theorem nodup_len (k : Nat) (l : List Nat) (h : l.Nodup) (hb : ∀ x ∈ l, x < k) : l.length ≤ k := by
  induction k generalizing l with
  | zero =>
    cases l with
    | nil => simp
    | cons a l => exact absurd (hb a (List.mem_cons_self ..)) (by omega)
  | succ k ih =>
    have h1 := ih (l.erase k) (h.erase k) (fun x hx => by
      have h2 := (List.Nodup.mem_erase_iff h).1 hx
      have := hb x h2.2
      omega)
    rw [List.length_erase] at h1
    split at h1 <;> omega

/-- A table: its signs, in order, and how often each was seen. -/
structure T where
  s : List UInt8
  c : List Nat
deriving DecidableEq
def T.place (t : T) (x : UInt8) : Nat := t.s.idxOf x
def halve (l : List Nat) : List Nat := l.map fun c => (c + 1) / 2
def T.more (t : T) (x : UInt8) : T := if t.s.idxOf x < t.s.length then t else ⟨t.s ++ [x], t.c ++ [0]⟩
def T.add (t : T) (x : UInt8) : T :=
  let i := t.s.idxOf x
  let u := t.more x
  let c1 := u.c.set i (u.c.getD i 0 + 1)
  if c1.getD i 0 ≤ 120 then ⟨u.s, c1⟩ else ⟨u.s, halve c1⟩
structure T.Ok (t : T) : Prop where
  len : t.c.length = t.s.length
  nodup : t.s.Nodup
  pos : ∀ i, i < t.c.length → 1 ≤ t.c.getD i 0 ∧ t.c.getD i 0 ≤ 120
def T.none_ : T := ⟨[], []⟩
theorem T.Ok.none_ : T.none_.Ok := ⟨rfl, by decide, fun i h => by simp [T.none_] at h⟩
theorem T.Ok.size {t : T} (h : t.Ok) : t.s.length ≤ 256 := by
  have h1 := nodup_len 256 (t.s.map UInt8.toNat) (by
    rw [List.nodup_iff_pairwise_ne, List.pairwise_map]
    exact (List.nodup_iff_pairwise_ne.1 h.nodup).imp (fun hne he => hne (UInt8.toNat_inj.1 he))) (fun x hx => by
    obtain ⟨b, _, rfl⟩ := List.mem_map.1 hx
    exact b.toNat_lt)
  simpa using h1

theorem getD_set_self (l : List Nat) (i y : Nat) (h : i < l.length) : (l.set i y).getD i 0 = y := by
  rw [List.getD_eq_getElem?_getD, List.getElem?_set_self h]; rfl
theorem getD_set_ne (l : List Nat) (i j y : Nat) (h : i ≠ j) : (l.set i y).getD j 0 = l.getD j 0 := by
  rw [List.getD_eq_getElem?_getD, List.getElem?_set_ne h, ← List.getD_eq_getElem?_getD]
theorem getD_halve (l : List Nat) (i : Nat) (h : i < l.length) : (halve l).getD i 0 = (l.getD i 0 + 1) / 2 := by
  unfold halve
  rw [List.getD_eq_getElem?_getD, List.getElem?_map, List.getD_eq_getElem?_getD, List.getElem?_eq_getElem h]; rfl
theorem T.more_len {t : T} (h : t.Ok) (x : UInt8) : (t.more x).c.length = (t.more x).s.length ∧ t.s.idxOf x < (t.more x).s.length := by
  have h0 := h.len
  unfold T.more
  split
  · exact ⟨h0, by assumption⟩
  · have := List.idxOf_le_length (a := x) (l := t.s)
    simp
    omega
theorem T.more_nodup {t : T} (h : t.Ok) (x : UInt8) : (t.more x).s.Nodup := by
  unfold T.more
  split
  · exact h.nodup
  · rename_i hx
    have hm : x ∉ t.s := fun hm => hx (List.idxOf_lt_length_of_mem hm)
    show (t.s ++ [x]).Nodup
    rw [List.nodup_append]
    refine ⟨h.nodup, by simp, fun a ha b hb => ?_⟩
    simp only [List.mem_singleton] at hb
    subst hb
    intro he
    subst he
    exact hm ha
/-- Before it is counted: the counts stand, but for that of the new one. -/
theorem T.more_c {t : T} (h : t.Ok) (x : UInt8) (i : Nat) (hi : i < (t.more x).c.length) : (t.more x).c.getD i 0 ≤ 120 ∧ (i ≠ t.s.idxOf x → 1 ≤ (t.more x).c.getD i 0) := by
  have h0 := h.len
  unfold T.more at hi ⊢
  split at hi
  · rename_i hx
    rw [if_pos hx]
    exact ⟨(h.pos i hi).2, fun _ => (h.pos i hi).1⟩
  · rename_i hx
    rw [if_neg hx]
    have hix := List.idxOf_le_length (a := x) (l := t.s)
    simp only [List.length_append, List.length_cons, List.length_nil] at hi
    show (t.c ++ [0]).getD i 0 ≤ 120 ∧ (_ → 1 ≤ (t.c ++ [0]).getD i 0)
    rw [List.getD_eq_getElem?_getD]
    by_cases hl : i < t.c.length
    · rw [List.getElem?_append_left hl, ← List.getD_eq_getElem?_getD]
      exact ⟨(h.pos i hl).2, fun _ => (h.pos i hl).1⟩
    · have : i = t.c.length := by omega
      subst this
      rw [List.getElem?_append_right (Nat.le_refl _)]
      simp
      omega
theorem T.Ok.add {t : T} (h : t.Ok) (x : UInt8) : (t.add x).Ok := by
  obtain ⟨h1, h2⟩ := T.more_len h x
  have h3 := T.more_nodup h x
  have h4 := T.more_c h x
  have hp : ∀ i, i < (t.more x).c.length → 1 ≤ ((t.more x).c.set (t.s.idxOf x) ((t.more x).c.getD (t.s.idxOf x) 0 + 1)).getD i 0 ∧ ((t.more x).c.set (t.s.idxOf x) ((t.more x).c.getD (t.s.idxOf x) 0 + 1)).getD i 0 ≤ 121 := by
    intro i hi
    by_cases he : t.s.idxOf x = i
    · subst he
      rw [getD_set_self _ _ _ hi]
      have := (h4 _ hi).1
      omega
    · rw [getD_set_ne _ _ _ _ he]
      have := h4 i hi
      have := this.2 (fun e => he e.symm)
      omega
  unfold T.add
  dsimp only
  split
  · rename_i hle
    refine ⟨by simpa using h1, h3, fun i hi => ?_⟩
    simp only [List.length_set] at hi
    have := hp i hi
    refine ⟨this.1, ?_⟩
    by_cases he : t.s.idxOf x = i
    · subst he; exact hle
    · show ((t.more x).c.set _ _).getD i 0 ≤ 120
      rw [getD_set_ne _ _ _ _ he]
      exact (h4 i hi).1
  · refine ⟨by simpa [halve] using h1, h3, fun i hi => ?_⟩
    simp only [halve, List.length_map, List.length_set] at hi
    have := hp i hi
    show 1 ≤ (halve _).getD i 0 ∧ (halve _).getD i 0 ≤ 120
    rw [getD_halve _ _ (by simpa using hi)]
    omega

/-- So many places in: all counts that count, how many they are. -/
def T.upto (t : T) (n : UInt8 → Bool) : Nat → Nat × Nat
  | 0 => (0, 0)
  | i + 1 => if n (t.s.getD i 0) then t.upto n i else ((t.upto n i).1 + t.c.getD i 0, (t.upto n i).2 + 1)
def T.all_ (t : T) (n : UInt8 → Bool) : Nat := (t.upto n t.s.length).1
def T.rest (t : T) (n : UInt8 → Bool) : Nat := max (t.upto n t.s.length).2 1
theorem T.upto_le {t : T} (h : t.Ok) (n : UInt8 → Bool) (i : Nat) (hi : i ≤ t.s.length) : (t.upto n i).1 ≤ 120 * i ∧ (t.upto n i).2 ≤ i := by
  have h0 := h.len
  induction i with
  | zero => simp [T.upto]
  | succ i ih =>
    have h1 := ih (by omega)
    have h2 := h.pos i (by omega)
    simp only [T.upto]
    split
    · omega
    · dsimp only; omega
theorem T.upto_mono (t : T) (n : UInt8 → Bool) (i j : Nat) (hij : i ≤ j) : (t.upto n i).1 ≤ (t.upto n j).1 := by
  induction j with
  | zero => rw [show i = 0 by omega]; exact Nat.le_refl _
  | succ j ih =>
    rcases Nat.lt_or_ge i (j + 1) with h | h
    · have h1 := ih (by omega)
      simp only [T.upto]
      split
      · exact h1
      · dsimp only; omega
    · rw [show i = j + 1 by omega]; exact Nat.le_refl _
/-- What is put of a sign beside those that it can't be: is it one of the table? -/
def T.isIn (t : T) (x : UInt8) (n : UInt8 → Bool) : Bool := decide (t.s.idxOf x < t.s.length) && !n x
def T.putOp (t : T) (x : UInt8) (n : UInt8 → Bool) : Op :=
  if t.isIn x n then .part (t.upto n (t.s.idxOf x)).1 (t.c.getD (t.s.idxOf x) 0) (t.all_ n + t.rest n) else .part (t.all_ n) (t.rest n) (t.all_ n + t.rest n)
theorem T.rest_pos (t : T) (n : UInt8 → Bool) : 1 ≤ t.rest n := Nat.le_max_right _ _
theorem T.tot_le {t : T} (h : t.Ok) (n : UInt8 → Bool) : t.all_ n ≤ 30720 ∧ t.rest n ≤ 256 := by
  have h1 := T.upto_le h n t.s.length (Nat.le_refl _)
  have h2 := h.size
  unfold T.all_ T.rest
  omega
theorem T.getD_idx {t : T} {x : UInt8} (hi : t.s.idxOf x < t.s.length) : t.s.getD (t.s.idxOf x) 0 = x := by
  rw [List.getD_eq_getElem?_getD, List.getElem?_eq_getElem hi]
  simp
theorem T.at_in {t : T} (n : UInt8 → Bool) (i : Nat) (hi : i < t.s.length) (hn : n (t.s.getD i 0) = false) : (t.upto n i).1 + t.c.getD i 0 ≤ t.all_ n := by
  have h := T.upto_mono t n (i + 1) t.s.length (by omega)
  simp only [T.upto, hn, Bool.false_eq_true, if_false] at h
  exact h
theorem T.putOp_fine {t : T} (h : t.Ok) (x : UInt8) (n : UInt8 → Bool) : (t.putOp x n).Fine := by
  have h0 := h.len
  have h1 := T.tot_le h n
  have h2 := T.rest_pos t n
  unfold T.putOp
  split
  · rename_i hin
    simp only [T.isIn, Bool.and_eq_true, decide_eq_true_eq, Bool.not_eq_true'] at hin
    have h3 := T.at_in (t := t) n _ hin.1 (by rw [T.getD_idx hin.1]; exact hin.2)
    have h4 := h.pos (t.s.idxOf x) (by omega)
    exact ⟨h4.1, by omega, by omega⟩
  · exact ⟨h2, by omega, by omega⟩

/-- The first place from i on whose part reaches beyond w. -/
def T.find (t : T) (n : UInt8 → Bool) (w : Nat) : Nat → Nat → Nat
  | 0, i => i
  | f + 1, i => if !n (t.s.getD i 0) && decide (w < (t.upto n i).1 + t.c.getD i 0) then i else t.find n w f (i + 1)
theorem T.find_ge (t : T) (n : UInt8 → Bool) (w f i : Nat) : i ≤ t.find n w f i ∧ t.find n w f i ≤ i + f := by
  induction f generalizing i with
  | zero => exact ⟨Nat.le_refl _, Nat.le_refl _⟩
  | succ f ih =>
    simp only [T.find]
    split
    · omega
    · have := ih (i + 1); omega
/-- What is got: the sign (none: the zero), whether there is one. -/
def T.get (t : T) (n : UInt8 → Bool) (d : D) : (UInt8 × Bool) × D :=
  let w := d.where_ (t.all_ n + t.rest n)
  if t.all_ n ≤ w.1 then ((0, false), w.2.take (t.all_ n) (t.rest n))
  else
    let i := t.find n w.1 t.s.length 0
    ((t.s.getD i 0, true), w.2.take (t.upto n i).1 (t.c.getD i 0))
/-- Where w lies inside of all, a place is found. -/
theorem T.find_in (t : T) (n : UInt8 → Bool) (w f i : Nat) (hf : i + f = t.s.length) (hw : w < t.all_ n) (hlo : (t.upto n i).1 ≤ w) :
    t.find n w f i < t.s.length ∧ n (t.s.getD (t.find n w f i) 0) = false ∧ (t.upto n (t.find n w f i)).1 ≤ w ∧ w < (t.upto n (t.find n w f i)).1 + t.c.getD (t.find n w f i) 0 := by
  induction f generalizing i with
  | zero =>
    have : i = t.s.length := by omega
    subst this
    unfold T.all_ at hw
    omega
  | succ f ih =>
    simp only [T.find]
    split
    · rename_i h
      simp only [Bool.and_eq_true, Bool.not_eq_true', decide_eq_true_eq] at h
      exact ⟨by omega, h.1, hlo, h.2⟩
    · rename_i h
      refine ih (i + 1) (by omega) ?_
      simp only [T.upto]
      cases hn : n (t.s.getD i 0)
      · simp only [hn, Bool.not_false, Bool.true_and, decide_eq_true_eq] at h
        simp only [Bool.false_eq_true, if_false]
        omega
      · simpa using hlo
theorem T.find_at (t : T) (n : UInt8 → Bool) (w f i j : Nat) (hij : i ≤ j) (hj : j < i + f) (hn : n (t.s.getD j 0) = false) (h1 : (t.upto n j).1 ≤ w) (h2 : w < (t.upto n j).1 + t.c.getD j 0) : t.find n w f i = j := by
  induction f generalizing i with
  | zero => omega
  | succ f ih =>
    simp only [T.find]
    rcases Nat.lt_or_ge i j with h | h
    · rw [if_neg, ih (i + 1) (by omega) (by omega)]
      simp only [Bool.and_eq_true, Bool.not_eq_true', decide_eq_true_eq, not_and, Nat.not_lt]
      intro hni
      have hm := T.upto_mono t n (i + 1) j (by omega)
      simp only [T.upto, hni, Bool.false_eq_true, if_false] at hm
      omega
    · have : i = j := by omega
      subst this
      rw [if_pos (by simp only [hn, Bool.not_false, Bool.true_and, decide_eq_true_eq]; exact h2)]
theorem T.get_back {B more : List UInt8} {d : D} {a : A} {t : T} (h : t.Ok) (x : UInt8) (n : UInt8 → Bool) (hd : RelD B more d a) (hg : a.Good) (hi : In B (a.step (t.putOp x n))) :
    (t.get n d).1 = (if t.isIn x n then (x, true) else (0, false)) ∧ RelD B more (t.get n d).2 (a.step (t.putOp x n)) := by
  have hf := T.putOp_fine h x n
  unfold T.putOp at hi hf ⊢
  by_cases hin : t.isIn x n = true
  · rw [if_pos hin] at hi hf ⊢
    obtain ⟨h1, h2, h3⟩ := hd.part hg hf hi
    rw [if_pos hin]
    simp only [T.isIn, Bool.and_eq_true, decide_eq_true_eq, Bool.not_eq_true'] at hin
    have h5 := T.at_in (t := t) n _ hin.1 (by rw [T.getD_idx hin.1]; exact hin.2)
    have h6 := T.find_at t n (d.where_ (t.all_ n + t.rest n)).1 t.s.length 0 (t.s.idxOf x) (Nat.zero_le _) (by omega) (by rw [T.getD_idx hin.1]; exact hin.2) h1 h2
    unfold T.get
    dsimp only
    rw [if_neg (by omega), h6, T.getD_idx hin.1]
    exact ⟨rfl, h3⟩
  · rw [if_neg hin] at hi hf ⊢
    obtain ⟨h1, h2, h3⟩ := hd.part hg hf hi
    rw [if_neg hin]
    unfold T.get
    dsimp only
    rw [if_pos h1]
    exact ⟨rfl, h3⟩

/-- Numbers below k that aren't in a set. -/
def below (n : Nat → Bool) : Nat → Nat
  | 0 => 0
  | k + 1 => if n k then below n k else below n k + 1
theorem below_le (n : Nat → Bool) (k : Nat) : below n k ≤ k := by
  induction k with
  | zero => simp [below]
  | succ k ih => simp only [below]; split <;> omega
theorem below_mono (n : Nat → Bool) (i j : Nat) (h : i ≤ j) : below n i ≤ below n j := by
  induction j with
  | zero => rw [show i = 0 by omega]; exact Nat.le_refl _
  | succ j ih =>
    rcases Nat.lt_or_ge i (j + 1) with h2 | h2
    · have := ih (by omega)
      simp only [below]; split <;> omega
    · rw [show i = j + 1 by omega]; exact Nat.le_refl _
theorem below_lt (n : Nat → Bool) (i j : Nat) (h : i < j) (hn : n i = false) : below n i < below n j := by
  have := below_mono n (i + 1) j h
  simp only [below, hn] at this
  simp at this
  omega
def anyOp (x : UInt8) (n : Nat → Bool) : Op := .part (below n x.toNat) 1 (below n 256)
theorem anyOp_fine (x : UInt8) (n : Nat → Bool) (h : n x.toNat = false) : (anyOp x n).Fine :=
  ⟨Nat.le_refl _, below_lt n _ _ x.toNat_lt h, by have := below_le n 256; omega⟩
/-- The number that has so many others below it. -/
def nth (n : Nat → Bool) : Nat → Nat → Nat → Nat
  | 0, s, _ => s
  | f + 1, s, w => if n s then nth n f (s + 1) w else if w = 0 then s else nth n f (s + 1) (w - 1)
theorem nth_at (n : Nat → Bool) (f s w x : Nat) (hx : s ≤ x) (hf : x < s + f) (hn : n x = false) (hw : below n s + w = below n x) : nth n f s w = x := by
  induction f generalizing s w with
  | zero => omega
  | succ f ih =>
    simp only [nth]
    rcases Nat.lt_or_ge s x with h | h
    · cases hs : n s
      · have h1 := below_lt n s x h hs
        rw [if_neg (by simp), if_neg (by omega), ih (s + 1) (w - 1) (by omega) (by omega) ?_]
        simp only [below, hs]
        simp
        omega
      · rw [if_pos rfl, ih (s + 1) w (by omega) (by omega) ?_]
        simp only [below, hs]
        simpa using hw
    · have : s = x := by omega
      subst this
      rw [hn, if_neg (by simp), if_pos (by omega)]
def getAny (n : Nat → Bool) (d : D) : UInt8 × D :=
  let w := d.where_ (below n 256)
  (UInt8.ofNat (nth n 256 0 w.1), w.2.take w.1 1)
theorem getAny_back {B more : List UInt8} {d : D} {a : A} (x : UInt8) (n : Nat → Bool) (hn : n x.toNat = false) (hd : RelD B more d a) (hg : a.Good) (hi : In B (a.step (anyOp x n))) :
    getAny n d = (x, (getAny n d).2) ∧ RelD B more (getAny n d).2 (a.step (anyOp x n)) := by
  obtain ⟨h1, h2, h3⟩ := hd.part hg (anyOp_fine x n hn) hi
  have hw : (d.where_ (below n 256)).1 = below n x.toNat := by omega
  have hx := nth_at n 256 0 (below n x.toNat) x.toNat (Nat.zero_le _) (by have := x.toNat_lt; omega) hn (by simp [below])
  unfold getAny
  dsimp only
  rw [hw, hx]
  exact ⟨by simp, h3⟩
end Go.Fq
