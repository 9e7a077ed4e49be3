/- Whole arrays out of a block and into it, as a walk meets them. -/
import Derived.Test.YtmcenocmilhekaaFr
import Derived.Laws.Tables
import Derived.Laws.Cells
import Derived.Laws.World
import Derived.WalkKit
namespace Go.My
set_option linter.unusedVariables false
open Go.RowKit

theorem addr_add0 (b j : Nat) : (⟨b, 0, none⟩ : Addr).add j = ⟨b, j, none⟩ := by unfold Addr.add; split <;> simp_all
theorem load_arr {P : Program} {w : World} {b n : Nat} {cs : Array Value} {t : TypeId} {fr : Nat × Nat} (h : w.heap[b]? = some (.cells cs t fr)) (hn : cs.size = n) :
    (loadCellsFrom ⟨b, 0, none⟩ 0 n #[]).run P w = .ok cs w := by
  subst hn
  have := run_loadCells_list (P := P) w ⟨b, 0, none⟩ cs.toList (fun j v hv => by
    have hadd : (⟨b, 0, none⟩ : Addr).add j = ⟨b, j, none⟩ := by unfold Addr.add; split <;> simp_all
    rw [hadd, cell_of_row _ _ j cs t fr h]
    simpa using hv)
  simpa [loadCells] using this
theorem store_arr {P : Program} {w : World} {b : Nat} {old : Array Value} {cs : List Value} {t : TypeId} (h : w.heap[b]? = some (.cells old t (0, 0))) (hn : old.size = cs.length) (h1 : ∀ v ∈ cs, v.oneCell' = true) :
    (storeCells ⟨b, 0, none⟩ cs).run P w = .ok () (w.setRow b cs.toArray) := by
  have := run_storeCells_from (P := P) b t cs 0 old w h (by simp; omega) h1
  simpa [← hn] using this
theorem fr_setRow {S : Nat → Prop} {a w : World} (h : Fr S a w) (b : Nat) (cs : Array Value) (hb : S b ∨ a.heap.size ≤ b) : Fr S a (w.setRow b cs) := by
  refine ⟨h.os, h.tape, h.output, by simpa using h.size, fun k hk hs => ?_⟩
  have hne : k ≠ b := fun e => by subst e; exact hb.elim hs (by omega)
  have e : (w.setRow b cs).heap[k]? = w.heap[k]? := by
    simp only [World.setRow, Array.getElem?_modify]
    rw [if_neg (fun e => hne e.symm)]
  exact e.trans (h.block k hk hs)
theorem block_setRow {w : World} {b : Nat} {old cs : Array Value} {t : TypeId} (h : w.heap[b]? = some (.cells old t (0, 0))) : (w.setRow b cs).heap[b]? = some (.cells cs t (0, 0)) := setRow_heap w b old cs t (0, 0) h
theorem block_setRow_other {w : World} {b k : Nat} {cs : Array Value} {o : Obj} (h : w.heap[k]? = some o) (hne : k ≠ b) : (w.setRow b cs).heap[k]? = some o := by
  simp only [World.setRow, Array.getElem?_modify]
  rw [if_neg (fun e => hne e.symm)]
  exact h
theorem set_other {w : World} {b i j : Nat} {v u : Value} (h : w.cell? ⟨b, j, none⟩ = some u) (hne : j ≠ i) : (w.setCell ⟨b, i, none⟩ v).cell? ⟨b, j, none⟩ = some u := by
  refine (World.cell?_setCell_other _ _ _ _ ?_).trans h
  intro e
  injection e with _ e2 _
  exact hne e2.symm
theorem results_cell {P : Program} {fn : Func} {tmps : Array Value} {w : World} {c : Nat} {ty : TypeId} {v2 : Value} {ad : Addr} (h : fn.results = #[.cell c ty]) (h2 : tmps[c]?.getD undef = .pointer (some ad)) (hl : (loadVar ty ad).run P w = .ok v2 w) :
    (results fn tmps).run P w = .ok v2 w := by
  unfold results
  rw [h]
  generalize loadVar = LV at hl
  simp [go_sem, h2, hl]
theorem wpList_load_arr {P : Program} {w : World} {ops : Array Oper} {rest : List Oper} {o : Oper} {a : Act} {Q : Exit → Act → World → Prop} (hgd : o.guard = none) (t : TypeId) (x : Operand) (ho : o.op = .load t x)
    {ad : Addr} {v : Value} (hx : a.eval x = .pointer (some ad)) (hl : (loadVar t ad).run P w = .ok v w) (h : wpList P ops Q rest (a.put o.dst v) w) : wpList P ops Q (o :: rest) a w := by
  refine wpList_plain hgd fun K hK => ?_
  unfold Oper.wp execOp
  simp only [ho, hx, Instr.loadAt, Instr.sureAddr, Sem.run_bind, Sem.run_pure, Result.andThen_ok, hl]
  exact hK _ _ h
theorem wpList_store_arr {P : Program} {w w' : World} {ops : Array Oper} {rest : List Oper} {o : Oper} {a : Act} {Q : Exit → Act → World → Prop} (hgd : o.guard = none) (t : TypeId) (x y : Operand) (ho : o.op = .store t x y)
    {ad : Addr} {v : Value} (hx : a.eval x = .pointer (some ad)) (hy : a.eval y = v) (hl : (storeVar t ad v).run P w = .ok () w') (h : wpList P ops Q rest (a.put o.dst undef) w') : wpList P ops Q (o :: rest) a w := by
  refine wpList_plain hgd fun K hK => ?_
  unfold Oper.wp execOp
  simp only [ho, hx, hy, Instr.storeAt, Instr.sureAddr, Sem.run_bind, Sem.run_pure, Result.andThen_ok, hl]
  exact hK _ _ h
end Go.My
