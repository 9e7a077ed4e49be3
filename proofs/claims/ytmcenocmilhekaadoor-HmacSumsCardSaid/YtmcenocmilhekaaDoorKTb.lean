/- What the row's listed tables give the walks: the first words of a sum, the constants of the rounds. -/
import Derived.Test.YtmcenocmilhekaaDoorTie
import Derived.Test.YtmcenocmilhekaaDoorSh4
import Derived.WalkKit
import Derived.ProofKit
import Derived.OpenShut
import Derived.Deep.DeepHandedRow
import Derived.Lib.LaidTab
import Derived.Lay
namespace Go.Proofs.YtmcenocmilhekaaDoor
set_option linter.unusedVariables false
open Go.ChangeShapes Go.WideShapes Go.ChangeAt Go.RowKit Go.Sha

theorem gFirst : Tryd.prog.globalNamed "cassone/sha.first" = some 0 := by kernel_rfl
theorem gK : Tryd.prog.globalNamed "cassone/sha.k" = some 1 := by kernel_rfl
theorem tFirst : (Tryd.prog.globals[0]?).map (·.type) = some 41 := by kernel_rfl
theorem tK : (Tryd.prog.globals[1]?).map (·.type) = some 46 := by kernel_rfl
theorem cellsW8 : Tryd.prog.cellsOf 41 = 8 := by kernel_rfl
theorem cellsW64 : Tryd.prog.cellsOf 46 = 64 := by kernel_rfl
theorem cellsW1 : Tryd.prog.cellsOf 40 = 1 := by kernel_rfl

def datum {H : Type} (l : List Nat) : DataW H := .agg (l.map fun x : Nat => .lit (.int .u32 (x : Int)))
/-- An array of words that reads as these numbers has these cells. -/
theorem words_of {H : Type} {enc : TypeId × Value → H} {W : World} {b : Nat} {spare : Nat → Bool} {held : Bool} {fuel n : Nat} {t : TypeId} {c : List Value} {l : List Nat} {pl : List MemPlace}
    (hu : Tryd.prog.underlying t = some (.array n 40)) (hc : Tryd.prog.cellsOf t = n) (hl : l.length = n)
    (h : DataW.trod enc Tryd.prog W b spare held fuel t c = some (datum l, pl)) (i : Nat) (hi : i < n) : c[i]? = some (.int .u32 (l.getD i 0 : Nat)) := by
  obtain ⟨xs, m, rfl, hx, hcl, hn, hel⟩ := DataW.trod_array hu h
  rw [hc] at hcl
  rw [cellsW1] at hel
  simp only [Prod.mk.injEq, datum, DataW.agg.injEq] at hx
  have h1 := hel i hi
  have hxi : i < xs.length := by omega
  rw [List.getElem?_eq_getElem hxi] at h1
  obtain ⟨k, e1, e2, _⟩ := DataW.trod_int Tryd.underlying40 h1
  have h3 : (xs.map (·.1))[i]? = (l.map fun x : Nat => DataW.lit (.int .u32 (x : Int)))[i]? := by rw [hx.1]
  rw [List.getElem?_map, List.getElem?_map, List.getElem?_eq_getElem hxi, List.getElem?_eq_getElem (show i < l.length by omega)] at h3
  simp only [Option.map_some, Option.some.injEq] at h3
  rw [e2] at h3
  simp only [DataW.lit.injEq, Lit.int.injEq, true_and] at h3
  have hci : i < c.length := by omega
  have e3 : (c.drop (i * 1)).take 1 = [c[i]] := by
    rw [Nat.mul_one, List.drop_eq_getElem_cons hci]
    rfl
  rw [e3] at e1
  rw [List.getElem?_eq_getElem hci, (List.cons.inj e1).1, h3]
  simp [List.getD, show i < l.length by omega]
theorem laid_first {H : Type} : (Rows.laid_cassone_sha_first : DataW H) = datum first.list := rfl
theorem laid_k {H : Type} : (Rows.laid_cassone_sha_k : DataW H) = datum kk := rfl

/-- WHAT THE ROW's LIST GIVES. -/
theorem ktab_of_laid {W : World} (h : laidMetH Tryd.prog [("cassone/sha.first", Rows.laid_cassone_sha_first), ("cassone/sha.k", Rows.laid_cassone_sha_k)] W) : KTab W := by
  rw [MakeChecks.laidMetH_plain _ _ _ (by kernel_rfl)] at h
  obtain ⟨ps, ⟨g0, t0, cs, fuel, p0, q0, hg0, ht0, hv0, hd0, ⟨g1, t1, cs1, fuel1, p1, q1, hg1, ht1, hv1, hd1, _, _⟩, _⟩, _⟩ := h
  obtain rfl := Option.some.inj (gFirst.symm.trans hg0)
  obtain rfl := Option.some.inj (tFirst.symm.trans ht0)
  obtain rfl := Option.some.inj (gK.symm.trans hg1)
  obtain rfl := Option.some.inj (tK.symm.trans ht1)
  rw [laid_first] at hd0
  rw [laid_k] at hd1
  refine ⟨fun i hi => ?_, fun t ht => ?_⟩
  · have h1 := words_of Tryd.underlying41 cellsW8 rfl hd0 i hi
    rw [World.var?_cell gFirst hv0 i, ← Array.getElem?_toList]
    exact h1
  · have h1 := words_of Tryd.underlying46 cellsW64 (by decide) hd1 t ht
    rw [World.var?_cell gK hv1 t, ← Array.getElem?_toList]
    exact h1

theorem own : ownKnob Tryd.prog.godebug = none := by kernel_rfl
end Go.Proofs.YtmcenocmilhekaaDoor
