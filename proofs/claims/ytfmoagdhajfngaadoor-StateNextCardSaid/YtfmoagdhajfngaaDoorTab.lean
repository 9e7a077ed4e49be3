/- What the row's listed table gives the walks: its six cells. -/
import Derived.Test.YtfmoagdhajfngaaDoorTie
import Derived.Test.YtfmoagdhajfngaaDoorSt
import Derived.WalkKit
import Derived.ProofKit
import Derived.OpenShut
import Derived.Deep.DeepHandedRow
import Derived.Lib.LaidTab
namespace Go.Proofs.YtfmoagdhajfngaaDoor
open Go.ChangeShapes Go.WideShapes Go.ChangeAt Go.RowKit

theorem gTab : Tryd.prog.globalNamed "cassone/state.behind" = some 0 := by kernel_rfl
theorem gTabType : (Tryd.prog.globals[0]?).map (·.type) = some 39 := by kernel_rfl
theorem cells39 : Tryd.prog.cellsOf 39 = 10 := by kernel_rfl
theorem cells38 : Tryd.prog.cellsOf 38 = 2 := by kernel_rfl
theorem cells24 : Tryd.prog.cellsOf 24 = 1 := by kernel_rfl

theorem pair_of {enc : TypeId × Value → Unit} {W : World} {b : Nat} {spare : Nat → Bool} {held : Bool} {m : Nat} {c : List Value} {a0 a1 : Int} {pl : List MemPlace}
    (h : DataW.trod enc Tryd.prog W b spare held m 38 c = some (.agg [.lit (.int .i64 a0), .lit (.int .i64 a1)], pl)) : c = [.int .i64 a0, .int .i64 a1] := by
  obtain ⟨ys, m2, rfl, hy, hl, hn, hel⟩ := DataW.trod_array Tryd.underlying38 h
  rw [cells38] at hl
  rw [cells24] at hel
  simp only [Prod.mk.injEq, DataW.agg.injEq] at hy
  match c, hl with
  | [u0, u1], _ =>
    have h0 := hel 0 (by decide)
    have h1 := hel 1 (by decide)
    match ys, hn with
    | [y0, y1], _ =>
      obtain ⟨k0, e0, e0', _⟩ := DataW.trod_int Tryd.underlying24 (show DataW.trod enc Tryd.prog W b spare held m2 24 [u0] = some y0 from h0)
      obtain ⟨k1, e1, e1', _⟩ := DataW.trod_int Tryd.underlying24 (show DataW.trod enc Tryd.prog W b spare held m2 24 [u1] = some y1 from h1)
      simp only [List.map_cons, List.map_nil, List.cons.injEq] at hy
      rw [e0', e1'] at hy
      simp at hy e0 e1
      obtain ⟨⟨rfl, rfl⟩, _⟩ := hy
      rw [e0, e1]

/-- WHAT THE ROW's LIST GIVES. -/
theorem tab_of_laid {W : World} (h : laidMetH Tryd.prog [("cassone/state.behind", Rows.laid_cassone_state_behind)] W) : Tab W := by
  rw [MakeChecks.laidMetH_plain _ _ _ (by kernel_rfl)] at h
  obtain ⟨ps, ⟨g0, t0, cs, fuel, p0, q0, hg0, ht0, hv0, hd0, _, _⟩, _⟩ := h
  obtain rfl := Option.some.inj (gTab.symm.trans hg0)
  obtain rfl := Option.some.inj (gTabType.symm.trans ht0)
  obtain ⟨xs, m, rfl, hx, hl, hn, hel⟩ := DataW.trod_array Tryd.underlying39 hd0
  rw [cells39] at hl
  rw [cells38] at hel
  simp only [Prod.mk.injEq, Rows.laid_cassone_state_behind, DataW.agg.injEq] at hx
  obtain ⟨l⟩ := cs
  have cell := fun i => World.var?_cell gTab hv0 i
  match l, hl with
  | [c0, c1, c2, c3, c4, c5, c6, c7, c8, c9], _ =>
    match xs, hn with
    | [x0, x1, x2, x3, x4], _ =>
      simp only [List.map_cons, List.map_nil, List.cons.injEq] at hx
      obtain ⟨⟨_, _, h2, h3, h4, _⟩, _⟩ := hx
      have g2 := pair_of (c := [c4, c5]) (pl := x2.2) ((show _ = some x2 from hel 2 (by decide)).trans (by rw [h2]))
      have g3 := pair_of (c := [c6, c7]) (pl := x3.2) ((show _ = some x3 from hel 3 (by decide)).trans (by rw [h3]))
      have g4 := pair_of (c := [c8, c9]) (pl := x4.2) ((show _ = some x4 from hel 4 (by decide)).trans (by rw [h4]))
      simp only [List.cons.injEq, and_true] at g2 g3 g4
      obtain ⟨rfl, rfl⟩ := g2
      obtain ⟨rfl, rfl⟩ := g3
      obtain ⟨rfl, rfl⟩ := g4
      exact ⟨by simpa using cell 4, by simpa using cell 5, by simpa using cell 6, by simpa using cell 7, by simpa using cell 8, by simpa using cell 9⟩

/-- A WORLD FOR THE WITNESS: the settled one, the table holding what its initialiser lays. -/
noncomputable def laidWorld (os : Os) : World :=
  { World.holding Tryd.prog os ⟨#[], #[], []⟩ with heap := (World.holding Tryd.prog os ⟨#[], #[], []⟩).heap.modify 0 fun
      | .cells _ t frozen => .cells #[.int .i64 0, .int .i64 0, .int .i64 0, .int .i64 0, .int .i64 7, .int .i64 10, .int .i64 8, .int .i64 11, .int .i64 9, .int .i64 11] t frozen
      | o => o }
theorem own : ownKnob Tryd.prog.godebug = none := by kernel_rfl
end Go.Proofs.YtfmoagdhajfngaaDoor
