/- Layer 18 (context): contexts and a path, as objects that turn; a first node. -/
import Derived.Test.YtopnnbhiehljlaaCr
namespace Go.Proofs.Ytopnnbhiehljlaa
set_option linter.unusedVariables false
open Go.RowKit Go.My Go.Cx

/-- From these objects in one world to those in another. -/
structure Sy (w0 : World) (L0 : List Thing) (w : World) (L : List Thing) : Prop where
  st : St w L
  step : Step w0 w (foot L0) (foot L)
theorem Sy.start {w : World} {L : List Thing} (h : St w L) : Sy w L w L := ⟨h, Step.refl _ _⟩
theorem Sy.fresh {w0 w w' : World} {L0 L : List Thing} (h : Sy w0 L0 w L) (hf : Fr NoF w w') : Sy w0 L0 w' L := ⟨h.st.fresh hf, h.step.trans (Step.fresh hf)⟩
theorem Sy.snoc {w0 w w' : World} {L0 L : List Thing} (h : Sy w0 L0 w L) {y : Thing} (hf : Fr NoF w w') (hy : y.1 w') (ho : Ob y) (hn : ∀ k, y.2 k → w.heap.size ≤ k) : Sy w0 L0 w' (L ++ [y]) := by
  obtain ⟨h1, h2⟩ := h.st.snoc hf hy ho hn
  exact ⟨h1, h.step.trans h2⟩
theorem Sy.turn {w0 w w' : World} {L0 L : List Thing} (h : Sy w0 L0 w L) (i : Nat) {x y : Thing} (hx : L[i]? = some x) (hs : Step w w' x.2 y.2) (hy : y.1 w') (ho : Ob y) : Sy w0 L0 w' (L.set i y) := by
  obtain ⟨h1, h2⟩ := h.st.turn_at i hx hs hy ho
  exact ⟨h1, h.step.trans h2⟩
theorem Sy.sub {w0 w : World} {L0 L M : List Thing} (h : Sy w0 L0 w L) (hs : M.Sublist L) : Sy w0 L0 w M := ⟨h.st.sub hs, Step.mono_foot h.step (fun k hk => foot_sub hs hk)⟩
/-- One that is new, for one that is dropped. -/
theorem Sy.swap {w0 w w' : World} {L0 L : List Thing} {x y : Thing} (h : Sy w0 L0 w (x :: L)) (hf : Fr NoF w w') (hy : y.1 w') (ho : Ob y) (hn : ∀ k, y.2 k → w.heap.size ≤ k) : Sy w0 L0 w' (y :: L) := by
  have h1 := h.sub (List.sublist_cons_self x L)
  obtain ⟨h2, h3⟩ := h1.st.new hf hy ho hn
  exact ⟨h2, h1.step.trans h3⟩

/-- Contexts, and the path of the last bytes. -/
structure CxP (w : World) (p : Nat) (M : Mm) (c : C) (pv : Value) : Prop where
  st : St w (rowO pv c.plen (ids c c.plen) :: cxL p M c)
  bl : M.bs.length = c.nds.length
  tl : M.tps.length = c.nds.length
  vl : M.vs.length = c.nds.length
def cxpL (p : Nat) (M : Mm) (c : C) (pv : Value) : List Thing := rowO pv c.plen (ids c c.plen) :: cxL p M c
theorem CxP.all {w : World} {p : Nat} {M : Mm} {c : C} {pv : Value} (h : CxP w p M c pv) : CxAt w p M c := ⟨h.st.tail, h.bl, h.tl, h.vl⟩
theorem CxP.row {w : World} {p : Nat} {M : Mm} {c : C} {pv : Value} (h : CxP w p M c pv) : w.ownsRow 0 3 1 pv c.plen (intsV (ids c c.plen)) := h.st.get (x := rowO pv c.plen (ids c c.plen)) (by simp)
theorem CxP.fresh {w w' : World} {p : Nat} {M : Mm} {c : C} {pv : Value} (h : CxP w p M c pv) (hf : Fr NoF w w') : CxP w' p M c pv := ⟨h.st.fresh hf, h.bl, h.tl, h.vl⟩
/-- A node's first child is another one. -/
theorem ArN.setCh {w : World} {q room : Nat} {u : Value} {bs : List Nat} {vs : List Nv} (h : ArN w q room u bs vs) {i : Nat} (hi : i < bs.length) (n : Nat) :
    ArN (w.setCell ⟨bs.getD i 0, 1, none⟩ (.int .i64 (n : Int))) q room u bs (vs.set i { vs.getD i ⟨0, 0, 0, 0⟩ with ch := n }) ∧ Fr (fun k => k = bs.getD i 0) w (w.setCell ⟨bs.getD i 0, 1, none⟩ (.int .i64 (n : Int))) := by
  have hc := h.cell i hi
  have hf : Fr (fun k => k = bs.getD i 0) w (w.setCell ⟨bs.getD i 0, 1, none⟩ (.int .i64 (n : Int))) := (Fr.refl _ w).setCell ⟨bs.getD i 0, 1, none⟩ _ (.inl rfl)
  refine ⟨⟨hf.keep h.blk (fun e => ne_of_ty h.blk hc (by decide) e), own_keep h.own hf (fun k hk e => by obtain ⟨cur, hk2⟩ := own_ty h.own hk; exact ne_of_ty hk2 hc (by decide) e), by rw [List.length_set]; exact h.len, fun j hj => ?_, h.nodup, h.le, h.big⟩, hf⟩
  by_cases e : i = j
  · subst e
    have hl : i < vs.length := by rw [h.len]; exact hi
    rw [show (vs.set i { vs.getD i ⟨0, 0, 0, 0⟩ with ch := n }).getD i ⟨0, 0, 0, 0⟩ = { vs.getD i ⟨0, 0, 0, 0⟩ with ch := n } by simp only [List.getD]; rw [List.getElem?_set_self hl]; rfl]
    exact block_setCell hc (.int .i64 (n : Int)) (off := 1)
  · rw [show (vs.set i { vs.getD i ⟨0, 0, 0, 0⟩ with ch := n }).getD j ⟨0, 0, 0, 0⟩ = vs.getD j ⟨0, 0, 0, 0⟩ by simp only [List.getD]; rw [List.getElem?_set_ne e]]
    refine hf.keep (h.cell j hj) (fun e2 => e ?_)
    have h1 : bs[j] = bs[i] := by simpa [List.getD, List.getElem?_eq_getElem hi, List.getElem?_eq_getElem hj] using e2
    rw [← h.nodup.idxOf_getElem i hi, ← h.nodup.idxOf_getElem j hj, h1]
theorem own_zero {w : World} {B e s n : Nat} {v : Value} {l : List Value} (h : w.ownsRow B e s v n l) : w.ownsRow 0 e s v n l := by
  refine ⟨h.1, h.2.imp id ?_⟩
  rintro ⟨g, cap, cur, h1, hB, h2⟩
  exact ⟨g, cap, cur, h1, Nat.zero_le _, h2⟩
end Go.Proofs.Ytopnnbhiehljlaa
