/- FreqBack, the plain law: what was put by a table that learns, beside signs that it can't be, is got again. -/
import Derived.Test.YtpddocehjljofaaFq
namespace Go.Fq
open Go.Rc
structure Ask where
  x : UInt8
  f : Nat → Bool
  any : Bool
def Ask.n (a : Ask) : UInt8 → Bool := fun b => a.f b.toNat
def Ask.ops (a : Ask) (t : T) : List Op := if a.any then (if a.f a.x.toNat then [] else [anyOp a.x a.f]) else [t.putOp a.x a.n]
def Ask.tab (a : Ask) (t : T) : T := if a.any then t else t.add a.x
def Ask.ok (a : Ask) (t : T) : Bool := if a.any then true else t.isIn a.x a.n
def seqF (g : Nat → Ask) (t : T) : Nat → List Op × T
  | 0 => ([], t)
  | i + 1 => ((seqF g t i).1 ++ (g i).ops (seqF g t i).2, (g i).tab (seqF g t i).2)
def oksF (g : Nat → Ask) (t : T) : Nat → List Bool
  | 0 => []
  | i + 1 => oksF g t i ++ [(g i).ok (seqF g t i).2]
theorem oksF_len (g : Nat → Ask) (t : T) (i : Nat) : (oksF g t i).length = i := by
  induction i with
  | zero => rfl
  | succ i ih => simp [oksF, ih]
theorem oksF_get (g : Nat → Ask) (t : T) (k i : Nat) (h : i < k) : (oksF g t k)[i]? = some ((g i).ok (seqF g t i).2) := by
  induction k with
  | zero => omega
  | succ k ih =>
    simp only [oksF]
    rcases Nat.lt_or_ge i k with h2 | h2
    · rw [List.getElem?_append_left (by rw [oksF_len]; exact h2)]
      exact ih h2
    · obtain rfl : i = k := by omega
      rw [List.getElem?_append_right (by rw [oksF_len]; exact Nat.le_refl _), oksF_len]
      simp
theorem Ask.ops_ok (a : Ask) {t : T} (h : t.Ok) : AllFine (a.ops t) ∧ (a.tab t).Ok ∧ (a.ops t).length ≤ 1 := by
  unfold Ask.ops Ask.tab
  cases ha : a.any
  · exact ⟨AllFine.cons (T.putOp_fine h _ _) AllFine.nil, h.add _, Nat.le_refl _⟩
  · refine ⟨?_, h, ?_⟩
    · cases hx : a.f a.x.toNat
      · exact AllFine.cons (anyOp_fine _ _ hx) AllFine.nil
      · exact AllFine.nil
    · simp only [if_true]
      split <;> simp
theorem seqF_ok (g : Nat → Ask) {t : T} (h : t.Ok) (i : Nat) : AllFine (seqF g t i).1 ∧ (seqF g t i).2.Ok ∧ (seqF g t i).1.length ≤ i := by
  induction i with
  | zero => exact ⟨AllFine.nil, h, Nat.le_refl _⟩
  | succ i ih =>
    obtain ⟨h1, h2, h3⟩ := ih
    obtain ⟨k1, k2, k3⟩ := (g i).ops_ok h2
    refine ⟨h1.append k1, k2, ?_⟩
    simp only [seqF, List.length_append]
    omega
theorem seqF_prefix (g : Nat → Ask) (t : T) (j k : Nat) (h : j ≤ k) : ∃ l, (seqF g t k).1 = (seqF g t j).1 ++ l := by
  induction k with
  | zero => rw [show j = 0 by omega]; exact ⟨[], by simp⟩
  | succ k ih =>
    rcases Nat.lt_or_ge j (k + 1) with h2 | h2
    · obtain ⟨l, hl⟩ := ih (by omega)
      refine ⟨l ++ (g k).ops (seqF g t k).2, ?_⟩
      simp only [seqF]
      rw [hl, List.append_assoc]
    · rw [show j = k + 1 by omega]; exact ⟨[], by simp⟩
/-- Many signs are added. -/
def addF (g : Nat → UInt8) : Nat → T
  | 0 => T.none_
  | i + 1 => (addF g i).add (g i)
theorem addF_ok (g : Nat → UInt8) (i : Nat) : (addF g i).Ok := by
  induction i with
  | zero => exact T.Ok.none_
  | succ i ih => exact ih.add _
end Go.Fq
