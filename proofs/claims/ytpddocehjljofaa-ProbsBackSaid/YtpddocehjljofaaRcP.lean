/- Layer 4 (probs), the plain law: trees of probabilities. -/
import Derived.Test.YtpddocehjljofaaRcO
namespace Go.Rc
set_option linter.unusedVariables false

/-- Bits are put by a tree: the steps, the tree behind them, the place. -/
def putT : List Nat → Nat → List Nat → List Op × List Nat × Nat
  | t, m, [] => ([], t, m)
  | t, m, b :: bs =>
    let r := putT (t.set m (learn (t.getD m 0) b)) (2 * m + b) bs
    (.bit (t.getD m 0) b :: r.1, r.2.1, r.2.2)
/-- Bits are got by a tree. -/
def getT : D → List Nat → Nat → Nat → List Nat × D × List Nat × Nat
  | d, t, m, 0 => ([], d, t, m)
  | d, t, m, n + 1 =>
    let b := d.bit (t.getD m 0)
    let r := getT b.2 (t.set m (learn (t.getD m 0) b.1)) (2 * m + b.1) n
    (b.1 :: r.1, r.2.1, r.2.2.1, r.2.2.2)

structure Tr (t : List Nat) (n : Nat) : Prop where
  len : t.length = 2 ^ n
  ok : ∀ k, k < t.length → PrOk (t.getD k 0)
theorem Tr.set {t : List Nat} {n : Nat} (h : Tr t n) (k y : Nat) (hy : PrOk y) : Tr (t.set k y) n := ⟨by rw [List.length_set, h.len], fun j hj => by
  rw [List.length_set] at hj
  by_cases hkj : k = j
  · subst hkj
    simp [List.getD, List.getElem?_set_self hj]
    exact hy
  · have := h.ok j hj
    simp only [List.getD, List.getElem?_set_ne hkj] at this ⊢
    exact this⟩
theorem Tr.new (n : Nat) : Tr (List.replicate (2 ^ n) 1024) n := ⟨by simp, fun k hk => by
  simp at hk
  simp [List.getD, hk]
  exact PrOk.start⟩

/-- So many bits are still to come: the place leaves room for them. -/
def Room (m n j : Nat) : Prop := m + 1 ≤ 2 ^ (n + 1 - j) ∧ j ≤ n
theorem Room.start (n : Nat) (_ : 1 ≤ n) : Room 1 n n := by
  unfold Room
  rw [show n + 1 - n = 1 by omega]
  exact ⟨by decide, Nat.le_refl _⟩
theorem Room.lt {m n j : Nat} (h : Room m n (j + 1)) : m < 2 ^ n := by
  have h1 := h.1
  have h2 : (2 : Nat) ^ (n + 1 - (j + 1)) ≤ 2 ^ n := Nat.pow_le_pow_right (by decide) (by omega)
  omega
theorem Room.next {m n j b : Nat} (h : Room m n (j + 1)) (hb : b < 2) : Room (2 * m + b) n j := by
  have h1 := h.1
  have h2 := h.2
  refine ⟨?_, by omega⟩
  rw [show n + 1 - j = (n + 1 - (j + 1)) + 1 by omega, Nat.pow_succ]
  omega

theorem putT_ok {t : List Nat} {n m : Nat} {bs : List Nat} (h : Tr t n) (hr : Room m n bs.length) (hb : ∀ b ∈ bs, b < 2) : AllFine (putT t m bs).1 ∧ Tr (putT t m bs).2.1 n ∧ (putT t m bs).1.length = bs.length := by
  induction bs generalizing t m with
  | nil => exact ⟨AllFine.nil, h, rfl⟩
  | cons b bs ih =>
    have hlt : m < t.length := by rw [h.len]; exact Room.lt hr
    have hp := h.ok m hlt
    have hb0 := hb b (List.mem_cons_self ..)
    obtain ⟨h1, h2, h3⟩ := ih (t := t.set m (learn (t.getD m 0) b)) (m := 2 * m + b) (h.set _ _ (hp.learn _)) (hr.next hb0) (fun x hx => hb x (List.mem_cons_of_mem _ hx))
    exact ⟨AllFine.cons ⟨hp, hb0⟩ h1, h2, by show _ + 1 = _ + 1; rw [h3]⟩
/-- What was put is got again. -/
theorem getT_back {B more : List UInt8} {d : D} {a : A} {t : List Nat} {n m : Nat} {bs : List Nat} (h : Tr t n) (hr : Room m n bs.length) (hb : ∀ b ∈ bs, b < 2) (hd : RelD B more d a) (hg : a.Good) (hi : In B (a.run (putT t m bs).1)) :
    (getT d t m bs.length).1 = bs ∧ RelD B more (getT d t m bs.length).2.1 (a.run (putT t m bs).1) ∧ (getT d t m bs.length).2.2 = (putT t m bs).2 := by
  induction bs generalizing t m d a with
  | nil => exact ⟨rfl, hd, rfl⟩
  | cons b bs ih =>
    have hlt : m < t.length := by rw [h.len]; exact Room.lt hr
    have hp := h.ok m hlt
    have hb0 := hb b (List.mem_cons_self ..)
    have hbs := fun x hx => hb x (List.mem_cons_of_mem _ hx)
    have ht := h.set m _ (hp.learn b)
    have hf := (putT_ok ht (hr.next hb0) hbs).1
    have hi1 : In B (a.bit (t.getD m 0) b) := In.run_back (l := (putT (t.set m (learn (t.getD m 0) b)) (2 * m + b) bs).1) hi (hg.bit hp b) hf
    obtain ⟨h1, h2⟩ := hd.bit hb0 hi1
    obtain ⟨h3, h4, h5⟩ := ih ht (hr.next hb0) hbs h2 (hg.bit hp b) hi
    simp only [getT, putT, List.length_cons, h1]
    exact ⟨by rw [h3], h4, h5⟩

/-- A number's bits, the highest first. -/
def bitsHi (v : Nat) : Nat → List Nat
  | 0 => []
  | n + 1 => v / 2 ^ n % 2 :: bitsHi v n
/-- .. the lowest first, from one on. -/
def bitsLo (v : Nat) : Nat → Nat → List Nat
  | _, 0 => []
  | i, n + 1 => v / 2 ^ i % 2 :: bitsLo v (i + 1) n
theorem bitsHi_len (v n : Nat) : (bitsHi v n).length = n := by
  induction n with
  | zero => rfl
  | succ n ih => simp [bitsHi, ih]
theorem bitsLo_len (v i n : Nat) : (bitsLo v i n).length = n := by
  induction n generalizing i with
  | zero => rfl
  | succ n ih => simp [bitsLo, ih]
theorem bitsHi_two (v n : Nat) : ∀ b ∈ bitsHi v n, b < 2 := by
  induction n with
  | zero => intro b hb; simp [bitsHi] at hb
  | succ n ih =>
    intro b hb
    simp only [bitsHi, List.mem_cons] at hb
    rcases hb with rfl | hb
    · exact Nat.mod_lt _ (by decide)
    · exact ih b hb
theorem bitsLo_two (v i n : Nat) : ∀ b ∈ bitsLo v i n, b < 2 := by
  induction n generalizing i with
  | zero => intro b hb; simp [bitsLo] at hb
  | succ n ih =>
    intro b hb
    simp only [bitsLo, List.mem_cons] at hb
    rcases hb with rfl | hb
    · exact Nat.mod_lt _ (by decide)
    · exact ih _ b hb
/-- The place behind the bits, the highest first: the number itself behind the first one. -/
theorem putT_place (t : List Nat) (m v n : Nat) : (putT t m (bitsHi v n)).2.2 = m * 2 ^ n + v % 2 ^ n := by
  induction n generalizing t m with
  | zero => simp [putT, bitsHi, Nat.mod_one]
  | succ n ih =>
    simp only [bitsHi, putT]
    rw [ih, Nat.pow_succ, Nat.mod_mul, Nat.add_mul, Nat.mul_comm (v / 2 ^ n % 2)]
    have e : 2 * m * 2 ^ n = m * (2 ^ n * 2) := by rw [Nat.mul_comm 2 m, Nat.mul_assoc, Nat.mul_comm 2]
    omega
end Go.Rc
