/- PriceSums: whatever the input, the law returns true and its arguments read as before. No condition. -/
import Derived.Test.YtlkiijojldnlbaaRows
import Derived.Test.YtlkiijojldnlbaaSw
import Derived.Test.YtlkiijojldnlbaaOp5
import Derived.Carry
import Derived.Deep.Slices
import Derived.Lib.SmallJoins
import Derived.WalkKit
import Derived.ProofKit
import Derived.OpenShut
import Derived.ShutString
import Derived.ChangeOld
import Derived.Below
import Derived.SizedLaws
namespace Go.Proofs.Ytlkiijojldnlbaa.priceSums
open Go.ChangeShapes Go.WideShapes Go.ChangeAt Go.RowKit Go.Deep
open Go.ChangeMaps (open_string shut_string)
set_option linter.unusedVariables false
theorem laidOut : laidOutB Try.prog = true := by kernel_rfl
theorem bd_u8 {a : Int} (h : (Lit.int .u8 a).wf = true) : 0 ≤ a ∧ a < 256 := by
  simp [Lit.wf, IntKind.has, IntKind.min, IntKind.max, IntKind.bits, IntKind.signed] at h
  omega
theorem cells34 : Try.prog.cellsOf 34 = 4 := by kernel_rfl

theorem pk_of {H : Type} {enc : TypeId × Value → H} {W : World} {base : Nat} {spare : Nat → Bool} {held : Bool} {n i b off : Nat} {cs : List Value} {x : DataW H × List MemPlace}
    (hc : W.cells? base ((⟨b, off, none⟩ : Addr).add (i * 4)) 4 = some cs) (h : DataW.trod enc Try.prog W base spare held n 34 cs = some x) : ∃ p, Pk.fits p ∧ PkAt W b (off + i * 4) p := by
  obtain ⟨y0, y1, y2, y3, m, _, hl, h0, h1, h2, h3⟩ := Joins.trod_struct4 Try.underlying34 h
  rw [cells34] at hl
  have hcell := World.cells?_some hc
  match cs, hl with
  | [u0, u1, u2, u3], _ =>
    obtain ⟨k0, e0, _, w0⟩ := DataW.trod_int Try.underlying3 (show DataW.trod enc Try.prog W base spare held m 3 [u0] = some y0 from h0)
    obtain ⟨k1, e1, _, w1⟩ := DataW.trod_int Try.underlying3 (show DataW.trod enc Try.prog W base spare held m 3 [u1] = some y1 from h1)
    obtain ⟨k2, e2, _, w2⟩ := DataW.trod_int Try.underlying3 (show DataW.trod enc Try.prog W base spare held m 3 [u2] = some y2 from h2)
    obtain ⟨k3, e3, _, w3⟩ := DataW.trod_int Try.underlying5 (show DataW.trod enc Try.prog W base spare held m 5 [u3] = some y3 from h3)
    simp at e0 e1 e2 e3
    subst e0 e1 e2 e3
    have g0 := hcell.2.2 0 (by decide)
    have g1 := hcell.2.2 1 (by decide)
    have g2 := hcell.2.2 2 (by decide)
    have g3 := hcell.2.2 3 (by decide)
    have plain : ∀ j, ((⟨b, off, none⟩ : Addr).add (i * 4)).add j = ⟨b, off + i * 4 + j, none⟩ := fun j => by
      rw [add_add, add_plain, Nat.add_assoc]
    rw [plain] at g0 g1 g2 g3
    exact ⟨⟨k0, k1, k2, k3⟩, bd_i64 w1, ⟨by simpa using g0, by simpa using g1, by simpa using g2, by simpa using g3⟩⟩

theorem own : ownKnob Try.prog.godebug = none := by kernel_rfl
set_option maxRecDepth 100000 in
theorem lifted (os : Os) (started : os.Started) (H : Type) (enc : TypeId × Value → H) :
    ReturnsInHanded {} Try.checked os 4 .any (Rows.priceSumsSpec.pre6 enc Try.prog Try.f4 Rows.priceSumsRow.domain false) (Rows.priceSumsSpec.post enc Try.prog Try.f4 false true false false) := by
  refine returnsInHanded_of_change_sized (C := Try.checked) own started (by kernel_rfl) Try.func4
    (ChangeSpec.witness6 (enc := enc) (C := Try.checked) false ⟨#[], #[.agg #[.int .i64 0, .int .i64 0, .int .i64 0, .int .i64 0, .int .i64 0], .slice none 0 0], []⟩ 8 (by kernel_rfl) (by kernel_rfl) (by kernel_rfl) (by kernel_rfl)) ?_
  intro W base args ds gs before hval0 hW hcnd hsz0 _
  have hval : ∀ (j : Nat) t v, Try.f4.params[j]? = some t → args[j]? = some v → Value.okWide Try.prog W .any base t v := hval0
  have hW' := hW
  obtain ⟨p, q, hA0, hV, rfl, hfz, hnd⟩ := hW
  have hA : DataW.TrodAll enc Try.prog W 0 (fun _ => true) true Try.f4.params.toList args.toList ds p := hA0
  rw [Try.params4] at hA hval
  obtain ⟨v0, vs0, d0, ds0, p0, q0, hargs, rfl, rfl, h0, r0⟩ := trodAll_cons hA
  obtain ⟨v1, vs1, d1, ds1, p1, q1, rfl, rfl, rfl, h1, r1⟩ := trodAll_cons r0
  obtain ⟨rfl, rfl, rfl⟩ := trodAll_nil r1
  obtain rfl : args = #[v0, v1] := by cases args; simp_all
  obtain ⟨rfl, rfl⟩ := trodVars_none hV
  obtain ⟨a, b, c, d, e, rfl⟩ := open5 (hval 0 23 v0 rfl rfl) h0
  obtain ⟨a1, len, cap, rfl⟩ := okWide_slice Try.underlying30 (hval 1 30 v1 rfl rfl)
  have k0 := h0
  have lt0 : ∀ x ∈ p0, x.block < W.heap.size := by obtain ⟨m, hm⟩ := k0; exact DataW.trod_lt m _ _ _ hm
  have k1 := h1
  have lt1 : ∀ x ∈ p1, x.block < W.heap.size := by obtain ⟨m, hm⟩ := k1; exact DataW.trod_lt m _ _ _ hm
  clear hA0 hval0 hsz0
  have fin : Calls Try.prog 4 #[.agg #[.int .i64 a, .int .i64 b, .int .i64 c, .int .i64 d, .int .i64 e], .slice a1 len cap] W fun e w' => e = .returned (.bool true) ∧ Below W.heap.size W w' := by
    obtain ⟨fuel, hf⟩ := h1
    rcases open_slice Try.underlying30 hf with ⟨hcs, _⟩ | ⟨a', l, c', m, n, D, Pl, hcs, _, hl, hm, hmm, _, hel⟩
    · simp [Value.cells] at hcs
      obtain ⟨rfl, rfl, rfl⟩ := hcs
      exact priceSums_walk a b c d e (fun _ => ⟨0, 0, 0, 0⟩) (fun i => ⟨by decide, by decide⟩) none 0 0 (by omega) W (fun i hi => by omega)
    · simp [Value.cells] at hcs
      obtain ⟨rfl, rfl, rfl⟩ := hcs
      rw [cells34] at hel
      have hmc : m = cap := by simpa using hmm
      subst hmc
      by_cases hl0 : len = 0
      · subst hl0
        exact priceSums_walk a b c d e (fun _ => ⟨0, 0, 0, 0⟩) (fun i => ⟨by decide, by decide⟩) _ 0 m (by omega) W (fun i hi => by omega)
      · obtain ⟨cs0, hc0, _⟩ := hel 0 (by omega)
        obtain ⟨B, off, spot⟩ := a'
        have hcell0 := (World.cells?_some hc0).2.2 0 (by decide)
        have hlen0 := (World.cells?_some hc0).2.1
        have hspot : spot = none := by
          have : ∃ u, W.cell? ((((⟨B, off, spot⟩ : Addr).add (0 * 4))).add 0) = some u := ⟨cs0[0]'(by omega), by rw [hcell0, List.getElem?_eq_getElem]⟩
          obtain ⟨u, hu⟩ := this
          simpa [Addr.add] using World.cell?_spot hu
        subst hspot
        have hB : B < W.heap.size := World.cells?_block (a := (⟨B, off, none⟩ : Addr).add (0 * 4)) hc0 (by decide)
        have hex : ∀ i, ∃ p, Pk.fits p ∧ (i < len → PkAt W B (off + i * 4) p) := by
          intro i
          by_cases hi : i < len
          · obtain ⟨cs, hc, ht⟩ := hel i (by omega)
            obtain ⟨p, hp, hat⟩ := pk_of hc ht
            exact ⟨p, hp, fun _ => hat⟩
          · exact ⟨⟨0, 0, 0, 0⟩, ⟨by decide, by decide⟩, fun h => absurd h hi⟩
        obtain ⟨f, hff⟩ := Classical.axiomOfChoice hex
        exact priceSums_walk a b c d e f (fun i => (hff i).1) _ len m (by unfold maxLen at hm; omega) W (fun i hi => ⟨B, off, rfl, hB, (hff i).2 hi⟩)
  refine fin.mono fun e W' ⟨he, bel⟩ => ?_
  subst he
  exact ⟨_, rfl, _, _, _, [], _, [], hW', trodAll_mk1 (shut_bool Try.underlying4 _), (trodAll_cons_mk (Below.trod laidOut (by kernel_rfl) (of_decide_eq_true (by kernel_rfl)) k0 bel lt0) (trodAll_cons_mk (Below.trod laidOut (by kernel_rfl) (of_decide_eq_true (by kernel_rfl)) k1 bel lt1) trodAll_mk0)), rfl, bel.frame _, fun h => by cases h⟩
theorem over : Rows.priceSumsRow.holds Try.pinned (OpenSpec.ofChange Rows.priceSumsSpec) :=
  OpenClaim.holds_of_wide 4 Try.f4 rfl rfl rfl rfl rfl rfl rfl ⟨rfl, rfl, rfl, rfl, rfl⟩ rfl rfl rfl rfl rfl (by kernel_rfl) Try.func4 (by kernel_rfl)
    (of_decide_eq_true (by kernel_rfl)) (by unfold Func.isWrapper; first | (rw [if_pos (by decide +kernel)]; kernel_rfl) | (rw [if_neg (by decide +kernel)]; exact ⟨rfl, rfl⟩))
    (fun os started H enc _ => lifted os started H enc)
theorem proved : Rows.PriceSumsSaid := over
#print axioms proved
end Go.Proofs.Ytlkiijojldnlbaa.priceSums
namespace Go.Proofs.Ytlkiijojldnlbaa
/-- The row, under a short name, for the claim. -/
theorem priceSums_holds : Rows.PriceSumsSaid := priceSums.proved
end Go.Proofs.Ytlkiijojldnlbaa
