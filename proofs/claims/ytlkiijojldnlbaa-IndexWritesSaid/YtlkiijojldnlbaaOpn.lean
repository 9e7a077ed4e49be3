/- What a slice that came in holds, element by element. -/
import Derived.Test.YtlkiijojldnlbaaProg
import Derived.Carry
import Derived.Deep.Slices
import Derived.Lib.SmallJoins
import Derived.WalkKit
import Derived.ProofKit
import Derived.OpenShut
import Derived.Deep.Fields
namespace Go.Proofs.Ytlkiijojldnlbaa
set_option linter.unusedVariables false
open Go.ChangeShapes Go.WideShapes Go.ChangeAt Go.RowKit Go.Deep

theorem open_elems {P : Program} {H : Type} {enc : TypeId × Value → H} {W : World} {base : Nat} {spare : Nat → Bool} {held : Bool} {a : Option Addr} {len cap : Nat} {d : DataW H} {p : List MemPlace} {T E : TypeId} {s : Nat} (ht : P.underlying T = some (.slice E)) (hs : P.cellsOf E = s) (hs0 : 0 < s)
    {α : Type} (Ok : α → Prop) (At : Nat → Nat → α → Prop) (z : α) (hz : Ok z)
    (elem : ∀ {n i b off : Nat} {cs : List Value} {x : DataW H × List MemPlace}, W.cells? base ((⟨b, off, none⟩ : Addr).add (i * s)) s = some cs → DataW.trod enc P W base spare held n E cs = some x → ∃ p : α, Ok p ∧ At b (off + i * s) p)
    (h : DataW.Trod enc P W base spare held T (.slice a len cap) d p) :
    len ≤ 9223372036854775807 ∧ ∃ f : Nat → α, (∀ i, Ok (f i)) ∧ ∀ i, i < len → ∃ b off, a = some ⟨b, off, none⟩ ∧ At b (off + i * s) (f i) := by
  obtain ⟨fuel, hf⟩ := h
  rcases open_slice ht hf with ⟨hcs, _⟩ | ⟨a', l, c', m, n, D, Pl, hcs, _, hl, hm, hmm, _, hel⟩
  · simp [Value.cells] at hcs
    obtain ⟨rfl, rfl, rfl⟩ := hcs
    exact ⟨by omega, fun _ => z, fun _ => hz, fun i hi => by omega⟩
  · simp [Value.cells] at hcs
    obtain ⟨rfl, rfl, rfl⟩ := hcs
    rw [hs] at hel
    have hlm : len ≤ m := by rw [hmm]; split <;> omega
    by_cases hl0 : len = 0
    · exact ⟨by omega, fun _ => z, fun _ => hz, fun i hi => by omega⟩
    · obtain ⟨cs0, hc0, _⟩ := hel 0 (by omega)
      obtain ⟨B, off, spot⟩ := a'
      have hcell0 := (World.cells?_some hc0).2.2 0 hs0
      have hlen0 := (World.cells?_some hc0).2.1
      have hspot : spot = none := by
        have : ∃ u, W.cell? ((((⟨B, off, spot⟩ : Addr).add (0 * s))).add 0) = some u := ⟨cs0[0]'(by omega), by rw [hcell0, List.getElem?_eq_getElem]⟩
        obtain ⟨u, hu⟩ := this
        simpa [Addr.add] using World.cell?_spot hu
      subst hspot
      have hex : ∀ i, ∃ p : α, Ok p ∧ (i < len → At B (off + i * s) p) := by
        intro i
        by_cases hi : i < len
        · obtain ⟨cs, hc, ht⟩ := hel i (by omega)
          obtain ⟨p, hp, hat⟩ := elem hc ht
          exact ⟨p, hp, fun _ => hat⟩
        · exact ⟨z, hz, fun h => absurd h hi⟩
      obtain ⟨f, hff⟩ := Classical.axiomOfChoice hex
      exact ⟨by unfold maxLen at hm; omega, f, fun i => (hff i).1, fun i hi => ⟨B, off, rfl, (hff i).2 hi⟩⟩

theorem plain_add (b off i j : Nat) : ((⟨b, off, none⟩ : Addr).add i).add j = ⟨b, off + i + j, none⟩ := by rw [add_add, add_plain, Nat.add_assoc]
theorem bdo_u8 {a : Int} (h : (Lit.int .u8 a).wf = true) : 0 ≤ a ∧ a < 256 := by
  simp [Lit.wf, IntKind.min, IntKind.max, IntKind.bits, IntKind.signed] at h
  omega
theorem bdo_u16 {a : Int} (h : (Lit.int .u16 a).wf = true) : 0 ≤ a ∧ a < 65536 := by
  simp [Lit.wf, IntKind.min, IntKind.max, IntKind.bits, IntKind.signed] at h
  omega
end Go.Proofs.Ytlkiijojldnlbaa
