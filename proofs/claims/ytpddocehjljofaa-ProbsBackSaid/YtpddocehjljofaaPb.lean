/- ProbsBack, the plain law: what was put by three trees is got again. -/
import Derived.Test.YtpddocehjljofaaRcL
namespace Go.Rc
theorem start_room' (x : Nat) : Lk.start.Room (bitsHi x 8).length := by rw [bitsHi_len]; exact Lk.Room.start
/-- A number by a tree forth, by a tree back, a byte beside another one. -/
def put3 (n M : Nat) (x : Nat × Nat) (A B C : List Nat) : List Op × List Nat × List Nat × List Nat :=
  ((putT A 1 (bitsHi (x.1 % M) n)).1 ++ (putT B 1 (bitsLo (x.1 % M) 0 n)).1 ++ (putL x.2 C Lk.start (bitsHi x.1 8)).1, (putT A 1 (bitsHi (x.1 % M) n)).2.1, (putT B 1 (bitsLo (x.1 % M) 0 n)).2.1, (putL x.2 C Lk.start (bitsHi x.1 8)).2.1)
def seqB (n M : Nat) (f : Nat → Nat × Nat) (A B C : List Nat) : Nat → List Op × List Nat × List Nat × List Nat
  | 0 => ([], A, B, C)
  | i + 1 => ((seqB n M f A B C i).1 ++ (put3 n M (f i) (seqB n M f A B C i).2.1 (seqB n M f A B C i).2.2.1 (seqB n M f A B C i).2.2.2).1, (put3 n M (f i) (seqB n M f A B C i).2.1 (seqB n M f A B C i).2.2.1 (seqB n M f A B C i).2.2.2).2)
structure Tri (n M : Nat) (A B C : List Nat) : Prop where
  a : Pl A M
  b : Pl B M
  c : Pl C 1024
theorem put3_ok {n M : Nat} {A B C : List Nat} (h : Tri n M A B C) (hM : M = 2 ^ n) (hn : 1 ≤ n) (x : Nat × Nat) : AllFine (put3 n M x A B C).1 ∧ Tri n M (put3 n M x A B C).2.1 (put3 n M x A B C).2.2.1 (put3 n M x A B C).2.2.2 ∧ (put3 n M x A B C).1.length = n + n + 8 := by
  subst hM
  have r1 : Room 1 n (bitsHi (x.1 % 2 ^ n) n).length := by rw [bitsHi_len]; exact Room.start n hn
  have r2 : Room 1 n (bitsLo (x.1 % 2 ^ n) 0 n).length := by rw [bitsLo_len]; exact Room.start n hn
  obtain ⟨a1, a2, a3⟩ := putT_pl h.a (Nat.le_refl _) r1 (bitsHi_two _ _)
  obtain ⟨b1, b2, b3⟩ := putT_pl h.b (Nat.le_refl _) r2 (bitsLo_two _ _ _)
  obtain ⟨c1, c2, c3⟩ := putL_ok (o := x.2) h.c (by decide) (start_room' x.1) (bitsHi_two _ _)
  refine ⟨(a1.append b1).append c1, ⟨a2, b2, c2⟩, ?_⟩
  simp only [put3, List.length_append]
  rw [a3, b3, c3, bitsHi_len, bitsLo_len, bitsHi_len]
theorem seqB_ok {n M : Nat} {A B C : List Nat} (h : Tri n M A B C) (hM : M = 2 ^ n) (hn : 1 ≤ n) (f : Nat → Nat × Nat) (i : Nat) : AllFine (seqB n M f A B C i).1 ∧ Tri n M (seqB n M f A B C i).2.1 (seqB n M f A B C i).2.2.1 (seqB n M f A B C i).2.2.2 ∧ (seqB n M f A B C i).1.length = (n + n + 8) * i := by
  induction i with
  | zero => exact ⟨AllFine.nil, h, rfl⟩
  | succ i ih =>
    obtain ⟨h1, h2, h3⟩ := ih
    obtain ⟨g1, g2, g3⟩ := put3_ok h2 hM hn (f i)
    refine ⟨h1.append g1, g2, ?_⟩
    simp only [seqB, List.length_append]
    rw [h3, g3, Nat.mul_succ]
theorem seqB_prefix (n M : Nat) (f : Nat → Nat × Nat) (A B C : List Nat) (j k : Nat) (h : j ≤ k) : ∃ l, (seqB n M f A B C k).1 = (seqB n M f A B C j).1 ++ l := by
  induction k with
  | zero => rw [show j = 0 by omega]; exact ⟨[], by simp⟩
  | succ k ih =>
    rcases Nat.lt_or_ge j (k + 1) with h2 | h2
    · obtain ⟨l, hl⟩ := ih (by omega)
      refine ⟨l ++ (put3 n M (f k) (seqB n M f A B C k).2.1 (seqB n M f A B C k).2.2.1 (seqB n M f A B C k).2.2.2).1, ?_⟩
      simp only [seqB]
      rw [hl, List.append_assoc]
    · rw [show j = k + 1 by omega]; exact ⟨[], by simp⟩

/-- The three are got, one behind the other. -/
structure Got (B : List UInt8) (a : A) (n M : Nat) (x : Nat × Nat) (P Q R : List Nat) (d : D) : Prop where
  g1 : ((getT d P 1 n).2.2.2 : Int) - (M : Int) = ((x.1 % M : Nat) : Int)
  t1 : (getT d P 1 n).2.2.1 = (put3 n M x P Q R).2.1
  g2 : ofLo (getT (getT d P 1 n).2.1 Q 1 n).1 0 = x.1 % M
  t2 : (getT (getT d P 1 n).2.1 Q 1 n).2.2.1 = (put3 n M x P Q R).2.2.1
  g3 : (getL x.2 (getT (getT d P 1 n).2.1 Q 1 n).2.1 R Lk.start 8).2.2.2.m % 256 = x.1
  t3 : (getL x.2 (getT (getT d P 1 n).2.1 Q 1 n).2.1 R Lk.start 8).2.2.1 = (put3 n M x P Q R).2.2.2
  rel : RelD B [] (getL x.2 (getT (getT d P 1 n).2.1 Q 1 n).2.1 R Lk.start 8).2.1 (a.run (put3 n M x P Q R).1)
theorem got3 {B : List UInt8} {a : A} {n M : Nat} {x : Nat × Nat} {P Q R : List Nat} {d : D} (h : Tri n M P Q R) (hM : M = 2 ^ n) (hn : 1 ≤ n) (hx : x.1 < 256) (hd : RelD B [] d a) (hg : a.Good) (hi : In B (a.run (put3 n M x P Q R).1)) : Got B a n M x P Q R d := by
  subst hM
  have r1 : Room 1 n (bitsHi (x.1 % 2 ^ n) n).length := by rw [bitsHi_len]; exact Room.start n hn
  have r2 : Room 1 n (bitsLo (x.1 % 2 ^ n) 0 n).length := by rw [bitsLo_len]; exact Room.start n hn
  obtain ⟨a1, a2, a3⟩ := putT_pl h.a (Nat.le_refl _) r1 (bitsHi_two _ _)
  obtain ⟨b1, b2, b3⟩ := putT_pl h.b (Nat.le_refl _) r2 (bitsLo_two _ _ _)
  obtain ⟨c1, c2, c3⟩ := putL_ok (o := x.2) h.c (by decide) (start_room' x.1) (bitsHi_two _ _)
  have hi3 : In B (((a.run (putT P 1 (bitsHi (x.1 % 2 ^ n) n)).1).run (putT Q 1 (bitsLo (x.1 % 2 ^ n) 0 n)).1).run (putL x.2 R Lk.start (bitsHi x.1 8)).1) := by
    rw [← A.run_append, ← A.run_append, ← List.append_assoc]; exact hi
  have g1 := hg.run a1
  have g2 := g1.run b1
  have hi2 := hi3.run_back g2 c1
  have hi1 := hi2.run_back g1 b1
  obtain ⟨x1, x2, x3⟩ := getT_pl h.a (Nat.le_refl _) r1 (bitsHi_two _ _) hd hg hi1
  rw [bitsHi_len] at x1 x2 x3
  obtain ⟨y1, y2, y3⟩ := getT_pl h.b (Nat.le_refl _) r2 (bitsLo_two _ _ _) x2 g1 hi2
  rw [bitsLo_len] at y1 y2 y3
  obtain ⟨z1, z2, z3⟩ := getL_back h.c (by decide) (start_room' x.1) (bitsHi_two _ _) y2 g2 hi3
  rw [bitsHi_len] at z1 z2 z3
  refine ⟨?_, by rw [x3]; rfl, ?_, by rw [y3]; rfl, ?_, by rw [z3]; rfl, ?_⟩
  · rw [x3, putT_place]
    have : x.1 % 2 ^ n % 2 ^ n = x.1 % 2 ^ n := Nat.mod_mod _ _
    rw [this]
    omega
  · rw [y1, ofLo_bits]
    simp
  · rw [z3, putL_place]
    simp only [Lk.start]
    omega
  · have : a.run (put3 n (2 ^ n) x P Q R).1 = ((a.run (putT P 1 (bitsHi (x.1 % 2 ^ n) n)).1).run (putT Q 1 (bitsLo (x.1 % 2 ^ n) 0 n)).1).run (putL x.2 R Lk.start (bitsHi x.1 8)).1 := by
      rw [← A.run_append, ← A.run_append, ← List.append_assoc]; rfl
    rw [this]
    exact z2
end Go.Rc
