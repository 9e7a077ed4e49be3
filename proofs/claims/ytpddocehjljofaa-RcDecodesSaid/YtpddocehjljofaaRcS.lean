/- Layer 3 (rc), the plain law: the steps of the laws. -/
import Derived.Test.YtpddocehjljofaaRcO
namespace Go.Rc

/-- A step of the law. -/
structure Stp where
  what : Nat
  which : Nat
  v : Nat
  n : Nat
  total : Nat
structure Stp.Ok (x : Stp) : Prop where
  what : x.what < 256
  which : x.which < 256
  v : x.v < 4294967296
  n : x.n < 256
  total : x.total < 65536
def Stp.pStart (x : Stp) : Nat := x.v % (1 + x.total)
def Stp.pSize (x : Stp) : Nat := 1 + x.v / 7 % (1 + x.total - x.pStart)
def Stp.pTotal (x : Stp) : Nat := 1 + x.total
theorem Stp.pt (x : Stp) (h : x.Ok) : PtOk x.pStart x.pSize x.pTotal := by
  have h1 : x.v % (1 + x.total) < 1 + x.total := Nat.mod_lt _ (by omega)
  have h2 : x.v / 7 % (1 + x.total - x.v % (1 + x.total)) < 1 + x.total - x.v % (1 + x.total) := Nat.mod_lt _ (by omega)
  have := h.total
  exact ⟨by unfold Stp.pSize; omega, by unfold Stp.pSize Stp.pStart Stp.pTotal; omega, by unfold Stp.pTotal; omega⟩

def stepOps (ps : List Nat) (x : Stp) : List Op × List Nat :=
  if x.what % 5 = 3 then (bitsOf x.v (x.n % 33), ps)
  else if x.what % 5 = 4 then ([.part x.pStart x.pSize x.pTotal], ps)
  else ([.bit (ps.getD (x.which % 4) 0) (x.v % 2)], ps.set (x.which % 4) (learn (ps.getD (x.which % 4) 0) (x.v % 2)))
def opsOf (ps : List Nat) (f : Nat → Stp) : Nat → List Op × List Nat
  | 0 => ([], ps)
  | i + 1 => ((opsOf ps f i).1 ++ (stepOps (opsOf ps f i).2 (f i)).1, (stepOps (opsOf ps f i).2 (f i)).2)
structure Ps (ps : List Nat) : Prop where
  len : ps.length = 4
  ok : ∀ k, k < 4 → PrOk (ps.getD k 0)
theorem Ps.start : Ps [1024, 1024, 1024, 1024] := ⟨rfl, fun k hk => by
  match k, hk with
  | 0, _ => exact PrOk.start
  | 1, _ => exact PrOk.start
  | 2, _ => exact PrOk.start
  | 3, _ => exact PrOk.start⟩
theorem Ps.set {ps : List Nat} (h : Ps ps) (k y : Nat) (hy : PrOk y) : Ps (ps.set k y) := ⟨by rw [List.length_set, h.len], fun j hj => by
  by_cases hkj : k = j
  · subst hkj
    simp [List.getD, List.getElem?_set_self (by rw [h.len]; exact hj : k < ps.length)]
    exact hy
  · have := h.ok j hj
    simp only [List.getD, List.getElem?_set_ne hkj] at this ⊢
    exact this⟩
theorem stepOps_ok {ps : List Nat} (h : Ps ps) {x : Stp} (hx : x.Ok) : AllFine (stepOps ps x).1 ∧ Ps (stepOps ps x).2 ∧ (stepOps ps x).1.length ≤ 32 := by
  unfold stepOps
  split
  · refine ⟨bitsOf_fine _ _, h, ?_⟩
    have : ∀ v n, (bitsOf v n).length = n := fun v n => by
      induction n with
      | zero => rfl
      | succ n ih => simp [bitsOf, ih]
    simp only [this]; omega
  · split
    · exact ⟨AllFine.cons (x.pt hx) AllFine.nil, h, by simp⟩
    · have hk := h.ok (x.which % 4) (Nat.mod_lt _ (by decide))
      exact ⟨AllFine.cons ⟨hk, Nat.mod_lt _ (by decide)⟩ AllFine.nil, h.set _ _ (hk.learn _), by simp⟩
theorem opsOf_ok {ps : List Nat} (h : Ps ps) {f : Nat → Stp} (hf : ∀ i, (f i).Ok) (i : Nat) : AllFine (opsOf ps f i).1 ∧ Ps (opsOf ps f i).2 ∧ (opsOf ps f i).1.length ≤ 32 * i := by
  induction i with
  | zero => exact ⟨AllFine.nil, h, Nat.le_refl _⟩
  | succ i ih =>
    have hs := stepOps_ok ih.2.1 (hf i)
    exact ⟨ih.1.append hs.1, hs.2.1, by simp only [opsOf, List.length_append]; omega⟩
/-- What is ahead is the beginning of all. -/
theorem opsOf_prefix (ps : List Nat) (f : Nat → Stp) (j n : Nat) (h : j ≤ n) : ∃ l, (opsOf ps f n).1 = (opsOf ps f j).1 ++ l := by
  induction n with
  | zero => obtain rfl : j = 0 := by omega
            exact ⟨[], by simp⟩
  | succ n ih =>
    by_cases hj : j = n + 1
    · subst hj; exact ⟨[], by simp⟩
    · obtain ⟨l, hl⟩ := ih (by omega)
      exact ⟨l ++ (stepOps (opsOf ps f n).2 (f n)).1, by simp only [opsOf]; rw [hl, List.append_assoc]⟩
end Go.Rc
