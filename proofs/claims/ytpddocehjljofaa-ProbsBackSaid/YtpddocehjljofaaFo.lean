/- Layer 4 (probs): many trees beside an encoder, beside a decoder. -/
import Derived.Test.YtpddocehjljofaaPz
namespace Go.Proofs.Ytpddocehjljofaa
set_option linter.unusedVariables false
open Go.RowKit Go.My

/-- Trees in blocks of their own. -/
structure Trees (w wr : World) (bs : List Nat) (ts : List (List Nat)) : Prop where
  len : ts.length = bs.length
  tr : ∀ j, j < bs.length → TrAt wr (bs.getD j 0) (ts.getD j [])
  inj : ∀ i j, i < bs.length → j < bs.length → bs.getD i 0 = bs.getD j 0 → i = j
  old : ∀ j, j < bs.length → w.heap.size ≤ bs.getD j 0
theorem Trees.keep {w wr w' : World} {bs : List Nat} {ts : List (List Nat)} (h : Trees w wr bs ts) (hf : Fr (fun _ => False) wr w') : Trees w w' bs ts :=
  ⟨h.len, fun j hj => (h.tr j hj).keep hf (fun h => h), h.inj, h.old⟩
/-- One tree turns. -/
theorem Trees.set {w wr w' : World} {bs : List Nat} {ts : List (List Nat)} {S : Nat → Prop} (h : Trees w wr bs ts) (j : Nat) (hj : j < bs.length) (F : List Nat) (hf : Fr (fun k => S k ∨ k = bs.getD j 0) wr w') (hF : TrAt w' (bs.getD j 0) F) (hS : ∀ k t, TrAt wr k t → ¬ S k) : Trees w w' bs (ts.set j F) := by
  have hl := h.len
  refine ⟨by simp [hl], fun i hi => ?_, h.inj, h.old⟩
  by_cases hij : j = i
  · subst hij
    rw [List.getD_eq_getElem?_getD (l := ts.set j F), List.getElem?_set_self (by omega)]
    exact hF
  · rw [List.getD_eq_getElem?_getD (l := ts.set j F), List.getElem?_set_ne hij, ← List.getD_eq_getElem?_getD]
    refine (h.tr i hi).keep hf ?_
    rintro (h1 | h1)
    · exact hS _ _ (h.tr i hi) h1
    · exact hij (h.inj i j hi hj h1).symm

theorem Trees.nil (w wr : World) : Trees w wr [] [] := ⟨rfl, fun j hj => by simp at hj, fun i j hi => by simp at hi, fun j hj => by simp at hj⟩
/-- A tree more. -/
theorem Trees.snoc {w wr w' : World} {bs : List Nat} {ts : List (List Nat)} (h : Trees w wr bs ts) (hw : w.heap.size ≤ wr.heap.size) {t : List Nat} (ht : TrAt w' wr.heap.size t) (hf : Fr (fun _ => False) wr w') : Trees w w' (bs ++ [wr.heap.size]) (ts ++ [t]) := by
  have hl := h.len
  have key : ∀ j, j < (bs ++ [wr.heap.size]).length → (j < bs.length ∧ (bs ++ [wr.heap.size]).getD j 0 = bs.getD j 0 ∧ (ts ++ [t]).getD j [] = ts.getD j [] ∧ bs.getD j 0 < wr.heap.size) ∨ (j = bs.length ∧ (bs ++ [wr.heap.size]).getD j 0 = wr.heap.size ∧ (ts ++ [t]).getD j [] = t) := by
    intro j hj
    simp at hj
    rcases Nat.lt_or_ge j bs.length with h1 | h1
    · left
      refine ⟨h1, ?_, ?_, lt_of_block (h.tr j h1)⟩
      · rw [List.getD_eq_getElem?_getD, List.getElem?_append_left h1, ← List.getD_eq_getElem?_getD]
      · rw [List.getD_eq_getElem?_getD, List.getElem?_append_left (by omega), ← List.getD_eq_getElem?_getD]
    · right
      obtain rfl : j = bs.length := by omega
      refine ⟨rfl, ?_, ?_⟩
      · rw [List.getD_eq_getElem?_getD, List.getElem?_append_right (Nat.le_refl _)]; simp
      · rw [List.getD_eq_getElem?_getD, List.getElem?_append_right (by omega)]; simp [hl]
  refine ⟨by simp [hl], fun j hj => ?_, fun i j hi hj he => ?_, fun j hj => ?_⟩
  · rcases key j hj with ⟨h1, h2, h3, _⟩ | ⟨_, h2, h3⟩
    · rw [h2, h3]; exact (h.tr j h1).keep hf (fun h => h)
    · rw [h2, h3]; exact ht
  · rcases key i hi with ⟨h1, h2, _, h3⟩ | ⟨h1, h2, _⟩ <;> rcases key j hj with ⟨k1, k2, _, k3⟩ | ⟨k1, k2, _⟩
    · exact h.inj i j h1 k1 (by rw [← h2, ← k2]; exact he)
    · rw [h2, k2] at he; omega
    · rw [h2, k2] at he; omega
    · omega
  · rcases key j hj with ⟨h1, h2, _, _⟩ | ⟨_, h2, _⟩
    · rw [h2]; exact h.old j h1
    · rw [h2]; exact hw

/-- An encoder and trees. -/
structure ForE (w wr : World) (pe : Nat) (v : Value) (ops : List Rc.Op) (bs : List Nat) (ts : List (List Nat)) : Prop where
  enc : EncO wr pe v ops
  trees : Trees w wr bs ts
  fr : Fr (fun _ => False) w wr
  hi : ∀ k, encFoot pe v k → w.heap.size ≤ k
theorem ForE.fresh {w wr w' : World} {pe : Nat} {v : Value} {ops : List Rc.Op} {bs : List Nat} {ts : List (List Nat)} (h : ForE w wr pe v ops bs ts) (hf : Fr (fun _ => False) wr w') : ForE w w' pe v ops bs ts :=
  ⟨h.enc.keep hf (fun _ _ h => h), h.trees.keep hf, h.fr.trans hf (fun _ h => h.elim), h.hi⟩
theorem ForE.put {w wr w' : World} {pe : Nat} {v : Value} {ops O : List Rc.Op} {bs F : List Nat} {ts : List (List Nat)} (h : ForE w wr pe v ops bs ts) (j : Nat) (hj : j < bs.length) (hp : PutPost wr pe (bs.getD j 0) v O F w') : ∃ v', ForE w w' pe v' O bs (ts.set j F) := by
  obtain ⟨v', h1, h2, h3, h4⟩ := hp
  refine ⟨v', h1, h.trees.set j hj F h3 h2 (fun k t ht hk => h.enc.away ht (by decide) (by decide) hk), h.fr.trans h3 (fun k hk => .inr ?_), fun k hk => ?_⟩
  · rcases hk with hk | rfl
    · exact h.hi k hk
    · exact h.trees.old j hj
  · rcases h4 k hk with h5 | h5
    · exact h.hi k h5
    · exact Nat.le_trans h.fr.size h5

/-- A decoder and trees. -/
structure ForD (w wr : World) (pd : Nat) (d : Rc.D) (bs : List Nat) (ts : List (List Nat)) : Prop where
  dec : DecAt wr pd d
  g : DecG d
  trees : Trees w wr bs ts
  fr : Fr (fun _ => False) w wr
  hpd : w.heap.size ≤ pd
theorem ForD.fresh {w wr w' : World} {pd : Nat} {d : Rc.D} {bs : List Nat} {ts : List (List Nat)} (h : ForD w wr pd d bs ts) (hf : Fr (fun _ => False) wr w') : ForD w w' pd d bs ts :=
  ⟨h.dec.keep hf (fun h => h), h.g, h.trees.keep hf, h.fr.trans hf (fun _ h => h.elim), h.hpd⟩
theorem ForD.get {w wr w' : World} {pd L : Nat} {d D : Rc.D} {bs F : List Nat} {ts : List (List Nat)} (h : ForD w wr pd d bs ts) (j : Nat) (hj : j < bs.length) (hp : GetPost wr pd (bs.getD j 0) L D F w') : ForD w w' pd D bs (ts.set j F) := by
  refine ⟨hp.dec, hp.g, h.trees.set j hj F (S := fun k => k = pd) hp.fr hp.tr (fun k t ht hk => h.dec.away ht hk), h.fr.trans hp.fr (fun k hk => .inr ?_), h.hpd⟩
  rcases hk with rfl | rfl
  · exact h.hpd
  · exact h.trees.old j hj
end Go.Proofs.Ytpddocehjljofaa
