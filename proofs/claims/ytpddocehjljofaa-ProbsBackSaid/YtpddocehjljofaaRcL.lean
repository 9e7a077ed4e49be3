/- Layer 4 (probs), the plain law: bits beside another byte's. -/
import Derived.Test.YtpddocehjljofaaRcP
namespace Go.Rc
set_option linter.unusedVariables false

theorem pow_16 (N : Nat) (hN : N ≤ 16) : (2 : Nat) ^ N ≤ 65536 := by
  have : (2 : Nat) ^ N ≤ 2 ^ 16 := Nat.pow_le_pow_right (by decide) hN
  exact this

/-- Where bits are put beside another number: the place, whether both went the same way so far, how many bits are still to come. -/
structure Lk where
  m : Nat
  like : Bool
  k : Nat
deriving DecidableEq
def Lk.bit (o : Nat) (s : Lk) : Nat := o / 2 ^ (s.k - 1) % 2
def Lk.at_ (o : Nat) (s : Lk) : Nat := if s.like then s.m + 256 + 256 * s.bit o else s.m
def Lk.next (o : Nat) (s : Lk) (b : Nat) : Lk := ⟨2 * s.m + b, s.like && b == s.bit o, s.k - 1⟩
def Lk.start : Lk := ⟨1, true, 8⟩
def putL (o : Nat) : List Nat → Lk → List Nat → List Op × List Nat × Lk
  | t, s, [] => ([], t, s)
  | t, s, b :: bs =>
    let r := putL o (t.set (s.at_ o) (learn (t.getD (s.at_ o) 0) b)) (s.next o b) bs
    (.bit (t.getD (s.at_ o) 0) b :: r.1, r.2.1, r.2.2)
def getL (o : Nat) : D → List Nat → Lk → Nat → List Nat × D × List Nat × Lk
  | d, t, s, 0 => ([], d, t, s)
  | d, t, s, n + 1 =>
    let b := d.bit (t.getD (s.at_ o) 0)
    let r := getL o b.2 (t.set (s.at_ o) (learn (t.getD (s.at_ o) 0) b.1)) (s.next o b.1) n
    (b.1 :: r.1, r.2.1, r.2.2.1, r.2.2.2)

/-- A tree that is long enough, each of its probabilities fine. -/
structure Pl (t : List Nat) (L : Nat) : Prop where
  len : t.length = L
  ok : ∀ k, k < t.length → PrOk (t.getD k 0)
theorem Pl.set {t : List Nat} {n : Nat} (h : Pl t n) (k y : Nat) (hy : PrOk y) : Pl (t.set k y) n := ⟨by rw [List.length_set, h.len], fun j hj => by
  rw [List.length_set] at hj
  by_cases hkj : k = j
  · subst hkj
    simp [List.getD, List.getElem?_set_self hj]
    exact hy
  · have := h.ok j hj
    simp only [List.getD, List.getElem?_set_ne hkj] at this ⊢
    exact this⟩
theorem Pl.new (n : Nat) : Pl (List.replicate n 1024) n := ⟨by simp, fun k hk => by
  simp at hk
  simp [List.getD, hk]
  exact PrOk.start⟩
theorem Tr.pl {t : List Nat} {n : Nat} (h : Tr t n) : Pl t (2 ^ n) := ⟨h.len, h.ok⟩
theorem Pl.tr {t : List Nat} {n : Nat} (h : Pl t (2 ^ n)) : Tr t n := ⟨h.len, h.ok⟩

/-- So many bits are still to come. -/
structure Lk.Room (s : Lk) (j : Nat) : Prop where
  k : s.k = j
  m : s.m + 1 ≤ 2 ^ (9 - j)
  j : j ≤ 8
theorem Lk.Room.start : Lk.start.Room 8 := ⟨rfl, by decide, by decide⟩
theorem Lk.Room.lt {s : Lk} {j : Nat} (h : s.Room (j + 1)) (o : Nat) : s.at_ o < 768 ∧ s.m < 256 := by
  have h1 := h.m
  have h2 : (2 : Nat) ^ (9 - (j + 1)) ≤ 2 ^ 8 := Nat.pow_le_pow_right (by decide) (by omega)
  have h3 : s.bit o < 2 := Nat.mod_lt _ (by decide)
  unfold Lk.at_
  split <;> omega
theorem Lk.Room.next {s : Lk} {j b : Nat} (h : s.Room (j + 1)) (o : Nat) (hb : b < 2) : (s.next o b).Room j := by
  have h1 := h.m
  have h2 := h.j
  refine ⟨by have := h.k; simp [Lk.next]; omega, ?_, by omega⟩
  show 2 * s.m + b + 1 ≤ _
  rw [show 9 - j = (9 - (j + 1)) + 1 by omega, Nat.pow_succ]
  omega

theorem putL_ok {o : Nat} {t : List Nat} {L : Nat} {s : Lk} {bs : List Nat} (h : Pl t L) (hL : 768 ≤ L) (hr : s.Room bs.length) (hb : ∀ b ∈ bs, b < 2) : AllFine (putL o t s bs).1 ∧ Pl (putL o t s bs).2.1 L ∧ (putL o t s bs).1.length = bs.length := by
  induction bs generalizing t s with
  | nil => exact ⟨AllFine.nil, h, rfl⟩
  | cons b bs ih =>
    have hlt : s.at_ o < t.length := by have := (Lk.Room.lt hr o).1; rw [h.len]; omega
    have hp := h.ok _ hlt
    have hb0 := hb b (List.mem_cons_self ..)
    obtain ⟨h1, h2, h3⟩ := ih (t := t.set (s.at_ o) (learn (t.getD (s.at_ o) 0) b)) (s := s.next o b) (h.set _ _ (hp.learn _)) (hr.next o hb0) (fun x hx => hb x (List.mem_cons_of_mem _ hx))
    exact ⟨AllFine.cons ⟨hp, hb0⟩ h1, h2, by show _ + 1 = _ + 1; rw [h3]⟩
theorem getL_back {B more : List UInt8} {d : D} {a : A} {o : Nat} {t : List Nat} {L : Nat} {s : Lk} {bs : List Nat} (h : Pl t L) (hL : 768 ≤ L) (hr : s.Room bs.length) (hb : ∀ b ∈ bs, b < 2) (hd : RelD B more d a) (hg : a.Good) (hi : In B (a.run (putL o t s bs).1)) :
    (getL o d t s bs.length).1 = bs ∧ RelD B more (getL o d t s bs.length).2.1 (a.run (putL o t s bs).1) ∧ (getL o d t s bs.length).2.2 = (putL o t s bs).2 := by
  induction bs generalizing t s d a with
  | nil => exact ⟨rfl, hd, rfl⟩
  | cons b bs ih =>
    have hlt : s.at_ o < t.length := by have := (Lk.Room.lt hr o).1; rw [h.len]; omega
    have hp := h.ok _ hlt
    have hb0 := hb b (List.mem_cons_self ..)
    have hbs := fun x hx => hb x (List.mem_cons_of_mem _ hx)
    have ht := h.set (s.at_ o) _ (hp.learn b)
    have hf := (putL_ok (o := o) ht hL (hr.next o hb0) hbs).1
    have hi1 : In B (a.bit (t.getD (s.at_ o) 0) b) := In.run_back (l := (putL o (t.set (s.at_ o) (learn (t.getD (s.at_ o) 0) b)) (s.next o b) bs).1) hi (hg.bit hp b) hf
    obtain ⟨h1, h2⟩ := hd.bit hb0 hi1
    obtain ⟨h3, h4, h5⟩ := ih ht (hr.next o hb0) hbs h2 (hg.bit hp b) hi
    simp only [getL, putL, List.length_cons, h1]
    exact ⟨by rw [h3], h4, h5⟩
theorem putL_place (o : Nat) (t : List Nat) (s : Lk) (v n : Nat) : (putL o t s (bitsHi v n)).2.2.m = s.m * 2 ^ n + v % 2 ^ n := by
  induction n generalizing t s with
  | zero => simp [putL, bitsHi, Nat.mod_one]
  | succ n ih =>
    simp only [bitsHi, putL]
    rw [ih, Nat.pow_succ, Nat.mod_mul, Nat.mul_comm (2 ^ n)]
    show (2 * s.m + v / 2 ^ n % 2) * 2 ^ n + _ = _
    rw [Nat.add_mul, Nat.mul_comm (v / 2 ^ n % 2)]
    have e : 2 * s.m * 2 ^ n = s.m * (2 * 2 ^ n) := by rw [Nat.mul_comm 2 s.m, Nat.mul_assoc]
    have e2 : s.m * (2 ^ n * 2) = s.m * (2 * 2 ^ n) := by rw [Nat.mul_comm (2 ^ n) 2]
    omega
/-- A number out of its bits, the lowest first. -/
def ofLo : List Nat → Nat → Nat
  | [], _ => 0
  | b :: bs, i => b * 2 ^ i + ofLo bs (i + 1)
theorem ofLo_bits (v i n : Nat) : ofLo (bitsLo v i n) i = 2 ^ i * (v / 2 ^ i % 2 ^ n) := by
  induction n generalizing i with
  | zero => simp [ofLo, bitsLo, Nat.mod_one]
  | succ n ih =>
    simp only [bitsLo, ofLo]
    rw [ih, Nat.pow_succ, Nat.pow_succ, Nat.mul_comm (2 ^ n) 2, Nat.mod_mul, Nat.div_div_eq_div_mul]
    generalize v / 2 ^ i % 2 = a
    generalize v / (2 ^ i * 2) % 2 ^ n = b
    rw [Nat.mul_add, Nat.mul_comm a, Nat.mul_assoc]
theorem putT_pl {t : List Nat} {L n m : Nat} {bs : List Nat} (h : Pl t L) (hL : 2 ^ n ≤ L) (hr : Room m n bs.length) (hb : ∀ b ∈ bs, b < 2) : AllFine (putT t m bs).1 ∧ Pl (putT t m bs).2.1 L ∧ (putT t m bs).1.length = bs.length := by
  induction bs generalizing t m with
  | nil => exact ⟨AllFine.nil, h, rfl⟩
  | cons b bs ih =>
    have hlt : m < t.length := by have := Room.lt hr; rw [h.len]; omega
    have hp := h.ok m hlt
    have hb0 := hb b (List.mem_cons_self ..)
    obtain ⟨h1, h2, h3⟩ := ih (t := t.set m (learn (t.getD m 0) b)) (m := 2 * m + b) (h.set _ _ (hp.learn _)) (hr.next hb0) (fun x hx => hb x (List.mem_cons_of_mem _ hx))
    exact ⟨AllFine.cons ⟨hp, hb0⟩ h1, h2, by show _ + 1 = _ + 1; rw [h3]⟩
theorem getT_pl {B more : List UInt8} {d : D} {a : A} {t : List Nat} {L n m : Nat} {bs : List Nat} (h : Pl t L) (hL : 2 ^ n ≤ L) (hr : Room m n bs.length) (hb : ∀ b ∈ bs, b < 2) (hd : RelD B more d a) (hg : a.Good) (hi : In B (a.run (putT t m bs).1)) :
    (getT d t m bs.length).1 = bs ∧ RelD B more (getT d t m bs.length).2.1 (a.run (putT t m bs).1) ∧ (getT d t m bs.length).2.2 = (putT t m bs).2 := by
  induction bs generalizing t m d a with
  | nil => exact ⟨rfl, hd, rfl⟩
  | cons b bs ih =>
    have hlt : m < t.length := by have := Room.lt hr; rw [h.len]; omega
    have hp := h.ok m hlt
    have hb0 := hb b (List.mem_cons_self ..)
    have hbs := fun x hx => hb x (List.mem_cons_of_mem _ hx)
    have ht := h.set m _ (hp.learn b)
    have hf := (putT_pl ht hL (hr.next hb0) hbs).1
    have hi1 : In B (a.bit (t.getD m 0) b) := In.run_back (l := (putT (t.set m (learn (t.getD m 0) b)) (2 * m + b) bs).1) hi (hg.bit hp b) hf
    obtain ⟨h1, h2⟩ := hd.bit hb0 hi1
    obtain ⟨h3, h4, h5⟩ := ih ht (hr.next hb0) hbs h2 (hg.bit hp b) hi
    simp only [getT, putT, List.length_cons, h1]
    exact ⟨by rw [h3], h4, h5⟩
/-- Whatever is got: as many bits, each less than two; the tree is as it was put so. -/
theorem getT_two (d : D) (t : List Nat) (m n : Nat) : (getT d t m n).1.length = n ∧ (∀ b ∈ (getT d t m n).1, b < 2) ∧ (getT d t m n).2.2 = (putT t m (getT d t m n).1).2 := by
  induction n generalizing d t m with
  | zero => exact ⟨rfl, fun b hb => by simp [getT] at hb, rfl⟩
  | succ n ih =>
    obtain ⟨h1, h2, h3⟩ := ih (d.bit (t.getD m 0)).2 (t.set m (learn (t.getD m 0) (d.bit (t.getD m 0)).1)) (2 * m + (d.bit (t.getD m 0)).1)
    have hb0 : (d.bit (t.getD m 0)).1 < 2 := by unfold D.bit; split <;> simp
    refine ⟨by simp only [getT, List.length_cons]; rw [h1], fun b hb => ?_, ?_⟩
    · simp only [getT, List.mem_cons] at hb
      rcases hb with rfl | hb
      · exact hb0
      · exact h2 b hb
    · simp only [getT, putT]
      rw [← h3]
end Go.Rc
