/- ArenaPlays: whatever the cells and the acts, the law returns true and its arguments read as before. No condition. -/
import Derived.Test.YtfmoagdhajfngaaRows
import Derived.Test.YtfmoagdhajfngaaPv
import Derived.Test.YtfmoagdhajfngaaPz
import Derived.WalkKit
import Derived.ProofKit
import Derived.OpenShut
import Derived.ShutString
import Derived.ChangeOld
import Derived.Below
import Derived.SizedLaws
import Derived.Deep.Slices
import Derived.Deep.Strs
import Derived.Lib.SmallJoins
namespace Go.Proofs.Ytfmoagdhajfngaa.arenaPlays
open Go.ChangeShapes Go.WideShapes Go.ChangeAt Go.RowKit Go.Deep Go.My
open Go.ChangeMaps (open_string shut_string)
set_option linter.unusedVariables false
set_option linter.unusedSimpArgs false
theorem bd_i64 {a : Int} (h : (Lit.int .i64 a).wf = true) : -9223372036854775808 ≤ a ∧ a ≤ 9223372036854775807 := by
  simp [Lit.wf, IntKind.has, IntKind.min, IntKind.max, IntKind.bits, IntKind.signed] at h
  omega
theorem bd_u8 {a : Int} (h : (Lit.int .u8 a).wf = true) : 0 ≤ a ∧ a < 256 := by
  simp [Lit.wf, IntKind.has, IntKind.min, IntKind.max, IntKind.bits, IntKind.signed] at h
  omega
theorem own : ownKnob Try.prog.godebug = none := by kernel_rfl
theorem laidOut : laidOutB Try.prog = true := by kernel_rfl
theorem cells59 : Try.prog.cellsOf 59 = 3 := by kernel_rfl
theorem cells5 : Try.prog.cellsOf 5 = 1 := by kernel_rfl
theorem cells3 : Try.prog.cellsOf 3 = 1 := by kernel_rfl

theorem act_of {H : Type} {enc : TypeId × Value → H} {W : World} {base : Nat} {spare : Nat → Bool} {held : Bool} {n b off i : Nat} {cs : List Value} {x : DataW H × List MemPlace}
    (hc : W.cells? base ((⟨b, off, none⟩ : Addr).add (i * 3)) 3 = some cs) (h : DataW.trod enc Try.prog W base spare held n 59 cs = some x) : ∃ what at' val, ActA W b off i what at' val := by
  obtain ⟨y0, y1, y2, m, _, hl, h0, h1, h2⟩ := trod_struct3 Try.underlying59 h
  rw [cells59] at hl
  have hcell := World.cells?_some hc
  match cs, hl with
  | [u0, u1, u2], _ =>
    obtain ⟨k0, e0, _, w0⟩ := DataW.trod_int Try.underlying5 (show DataW.trod enc Try.prog W base spare held m 5 [u0] = some y0 from h0)
    obtain ⟨k1, e1, _, w1⟩ := DataW.trod_int Try.underlying3 (show DataW.trod enc Try.prog W base spare held m 3 [u1] = some y1 from h1)
    obtain ⟨k2, e2, _, w2⟩ := DataW.trod_int Try.underlying3 (show DataW.trod enc Try.prog W base spare held m 3 [u2] = some y2 from h2)
    simp at e0 e1 e2
    subst e0 e1 e2
    have plain : ∀ j, ((⟨b, off, none⟩ : Addr).add (i * 3)).add j = ⟨b, off + i * 3 + j, none⟩ := fun j => by
      rw [add_add, add_plain, Nat.add_assoc]
    have g0 := hcell.2.2 0 (by decide)
    have g1 := hcell.2.2 1 (by decide)
    have g2 := hcell.2.2 2 (by decide)
    rw [plain] at g0 g1 g2
    exact ⟨k0, k1, k2, by simpa using g0, by simpa using g1, by simpa using g2, bd_u8 w0, bd_i64 w1, bd_i64 w2⟩

set_option maxRecDepth 100000 in
theorem lifted (os : Os) (started : os.Started) (H : Type) (enc : TypeId × Value → H) :
    ReturnsInHanded {} Try.checked os 8 .any (Rows.arenaPlaysSpec.pre6 enc Try.prog Try.f8 Rows.arenaPlaysRow.domain false) (Rows.arenaPlaysSpec.post enc Try.prog Try.f8 false true false false) := by
  refine returnsInHanded_of_change_sized (C := Try.checked) own started (by kernel_rfl) Try.func8
    (ChangeSpec.witness6 (enc := enc) (C := Try.checked) false ⟨#[], #[.int .i64 0, .slice none 0 0], []⟩ 8 (by kernel_rfl) (by kernel_rfl) (by kernel_rfl) (by kernel_rfl)) ?_
  intro W base args ds gs before hval0 hW hcnd hsz0 _
  have hval : ∀ (j : Nat) t v, Try.f8.params[j]? = some t → args[j]? = some v → Value.okWide Try.prog W .any base t v := hval0
  have hW' := hW
  obtain ⟨p, q, hA0, hV, rfl, hfz, hnd⟩ := hW
  have hA : DataW.TrodAll enc Try.prog W 0 (fun _ => true) true Try.f8.params.toList args.toList ds p := hA0
  rw [Try.params8] at hA hval
  obtain ⟨v0, vs0, d0, ds0, p0, q0, hargs, rfl, rfl, h0, r0⟩ := trodAll_cons hA
  obtain ⟨v1, vs1, d1, ds1, p1, q1, rfl, rfl, rfl, h1, r1⟩ := trodAll_cons r0
  obtain ⟨rfl, rfl, rfl⟩ := trodAll_nil r1
  obtain rfl : args = #[v0, v1] := by cases args; simp_all
  obtain ⟨rfl, rfl⟩ := trodVars_none hV
  obtain ⟨a0, rfl, rfl, rfl, w0⟩ := open_int Try.underlying3 (hval 0 3 v0 rfl rfl) h0
  obtain ⟨a1, len, cap, rfl⟩ := okWide_slice Try.underlying52 (hval 1 52 v1 rfl rfl)
  have k1 := h1
  have lt1 : ∀ x ∈ p1, x.block < W.heap.size := by obtain ⟨m, hm⟩ := k1; exact DataW.trod_lt m _ _ _ hm
  clear hA0 hval0 hsz0
  have fin : Calls Try.prog 8 #[.int .i64 a0, .slice a1 len cap] W fun e w' => e = .returned (.bool true) ∧ Below W.heap.size W w' := by
    by_cases hl0 : len = 0
    · subst hl0
      exact (arenaPlays_zero a0 a1 cap (bd_i64 w0) W).mono fun e w' h => ⟨h.1, h.2.below (fun _ hk => hk)⟩
    · obtain ⟨fuel, hf⟩ := h1
      rcases open_slice Try.underlying52 hf with ⟨hcs, _⟩ | ⟨a, l, c, m, n, D, Pl, hcs, _, hl, hm, hmm, _, hel⟩
      · simp [Value.cells] at hcs; omega
      · simp [Value.cells] at hcs
        obtain ⟨rfl, rfl, rfl⟩ := hcs
        rw [cells59] at hel
        have hmc : m = cap := by simpa using hmm
        subst hmc
        obtain ⟨cs0, hc0, _⟩ := hel 0 (by omega)
        obtain ⟨b, off, spot⟩ := a
        have hcell0 := (World.cells?_some hc0).2.2 0 (by decide)
        have hlen0 := (World.cells?_some hc0).2.1
        have hspot : spot = none := by
          have : ∃ u, W.cell? ((((⟨b, off, spot⟩ : Addr).add (0 * 3))).add 0) = some u := ⟨cs0[0]'(by omega), by rw [hcell0, List.getElem?_eq_getElem]⟩
          obtain ⟨u, hu⟩ := this
          simpa [Addr.add] using World.cell?_spot hu
        subst hspot
        have hb : b < W.heap.size := World.cells?_block (a := (⟨b, off, none⟩ : Addr).add (0 * 3)) hc0 (by decide)
        exact (arenaPlays_walk a0 b off len m (bd_i64 w0) (by unfold maxLen at hm; omega) W hb (fun i hi => by
          obtain ⟨cs, hc, ht⟩ := hel i (by omega)
          exact act_of hc ht)).mono fun e w' h => ⟨h.1, h.2.below (fun _ hk => hk)⟩
  refine fin.mono fun e W' ⟨he, bel⟩ => ?_
  subst he
  exact ⟨_, rfl, _, _, _, [], _, [], hW', trodAll_mk1 (shut_bool Try.underlying4 _), (trodAll_cons_mk (shut_int Try.underlying3 w0) (trodAll_cons_mk (Below.trod laidOut (by kernel_rfl) (of_decide_eq_true (by kernel_rfl)) k1 bel lt1) trodAll_mk0)), rfl, bel.frame _, fun h => by cases h⟩
theorem over : Rows.arenaPlaysRow.holds Try.pinned (OpenSpec.ofChange Rows.arenaPlaysSpec) :=
  OpenClaim.holds_of_wide 8 Try.f8 rfl rfl rfl rfl rfl rfl rfl ⟨rfl, rfl, rfl, rfl, rfl⟩ rfl rfl rfl rfl rfl (by kernel_rfl) Try.func8 (by kernel_rfl)
    (of_decide_eq_true (by kernel_rfl)) (by unfold Func.isWrapper; first | (rw [if_pos (by decide +kernel)]; kernel_rfl) | (rw [if_neg (by decide +kernel)]; exact ⟨rfl, rfl⟩))
    (fun os started H enc _ => lifted os started H enc)
theorem proved : Rows.ArenaPlaysSaid := over
#print axioms proved
end Go.Proofs.Ytfmoagdhajfngaa.arenaPlays
namespace Go.Proofs.Ytfmoagdhajfngaa
/-- The row, under a short name, for the claim. -/
theorem arenaPlays_holds : Rows.ArenaPlaysSaid := arenaPlays.proved
end Go.Proofs.Ytfmoagdhajfngaa
