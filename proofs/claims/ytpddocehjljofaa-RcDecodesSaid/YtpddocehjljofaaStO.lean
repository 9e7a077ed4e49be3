/- A slice of steps that came in, opened. -/
import Derived.Test.YtpddocehjljofaaRb
import Derived.Carry
import Derived.Deep.Slices
import Derived.Lib.SmallJoins
import Derived.WalkKit
import Derived.ProofKit
import Derived.OpenShut
import Derived.Deep.Fields
namespace Go.Proofs.Ytpddocehjljofaa
open Go.ChangeShapes Go.WideShapes Go.ChangeAt Go.RowKit Go.Deep Go.My

theorem bd5_u8 {a : Int} (h : (Lit.int .u8 a).wf = true) : 0 ≤ a ∧ a < 256 := by
  simp [Lit.wf, IntKind.has, IntKind.min, IntKind.max, IntKind.bits, IntKind.signed] at h
  omega
theorem bd5_u16 {a : Int} (h : (Lit.int .u16 a).wf = true) : 0 ≤ a ∧ a < 65536 := by
  simp [Lit.wf, IntKind.has, IntKind.min, IntKind.max, IntKind.bits, IntKind.signed] at h
  omega
theorem bd5_u32 {a : Int} (h : (Lit.int .u32 a).wf = true) : 0 ≤ a ∧ a < 4294967296 := by
  simp [Lit.wf, IntKind.has, IntKind.min, IntKind.max, IntKind.bits, IntKind.signed] at h
  omega
theorem cellsStp : Try.prog.cellsOf 36 = 5 := by kernel_rfl
theorem cells5 : Try.prog.cellsOf 5 = 1 := by kernel_rfl
theorem cells34 : Try.prog.cellsOf 34 = 1 := by kernel_rfl

theorem stp0 : (⟨0, 0, 0, 0, 0⟩ : Rc.Stp).Ok := ⟨by decide, by decide, by decide, by decide, by decide⟩
set_option maxRecDepth 100000 in
theorem stp_of {H : Type} {enc : TypeId × Value → H} {W : World} {base : Nat} {spare : Nat → Bool} {held : Bool} {n i b off : Nat} {cs : List Value} {x : DataW H × List MemPlace}
    (hc : W.cells? base ((⟨b, off, none⟩ : Addr).add (i * 5)) 5 = some cs) (h : DataW.trod enc Try.prog W base spare held n 36 cs = some x) : ∃ p : Rc.Stp, p.Ok ∧ StpAt W b (off + i * 5) p := by
  obtain ⟨xs, m, _, _, hl, hlen, hg⟩ := DataW.trod_struct Try.underlying36 h
  have hcell := World.cells?_some hc
  have hl5 : cs.length = 5 := hcell.2.1
  match cs, hl5 with
  | [u0, u1, u2, u3, u4], _ =>
   match xs, hlen with
   | [y0, y1, y2, y3, y4], _ =>
    have h0 : DataW.trod enc Try.prog W base spare held m 5 (([u0, u1, u2, u3, u4].drop 0).take (Try.prog.cellsOf 5)) = some y0 := hg 0 _ rfl
    rw [cells5] at h0
    have h1 : DataW.trod enc Try.prog W base spare held m 5 (([u0, u1, u2, u3, u4].drop 1).take (Try.prog.cellsOf 5)) = some y1 := hg 1 _ rfl
    rw [cells5] at h1
    have h2 : DataW.trod enc Try.prog W base spare held m 34 (([u0, u1, u2, u3, u4].drop 2).take (Try.prog.cellsOf 34)) = some y2 := hg 2 _ rfl
    rw [cells34] at h2
    have h3 : DataW.trod enc Try.prog W base spare held m 5 (([u0, u1, u2, u3, u4].drop 3).take (Try.prog.cellsOf 5)) = some y3 := hg 3 _ rfl
    rw [cells5] at h3
    have h4 : DataW.trod enc Try.prog W base spare held m 31 (([u0, u1, u2, u3, u4].drop 4).take (Try.prog.cellsOf 31)) = some y4 := hg 4 _ rfl
    rw [cells31] at h4
    obtain ⟨k0, e0, _, w0⟩ := DataW.trod_int (cs := [u0]) Try.underlying5 h0
    obtain ⟨k1, e1, _, w1⟩ := DataW.trod_int (cs := [u1]) Try.underlying5 h1
    obtain ⟨k2, e2, _, w2⟩ := DataW.trod_int (cs := [u2]) Try.underlying34 h2
    obtain ⟨k3, e3, _, w3⟩ := DataW.trod_int (cs := [u3]) Try.underlying5 h3
    obtain ⟨k4, e4, _, w4⟩ := DataW.trod_int (cs := [u4]) Try.underlying31 h4
    simp at e0 e1 e2 e3 e4
    subst e0 e1 e2 e3 e4
    obtain ⟨k0, rfl⟩ := Int.eq_ofNat_of_zero_le (bd5_u8 w0).1
    obtain ⟨k1, rfl⟩ := Int.eq_ofNat_of_zero_le (bd5_u8 w1).1
    obtain ⟨k2, rfl⟩ := Int.eq_ofNat_of_zero_le (bd5_u32 w2).1
    obtain ⟨k3, rfl⟩ := Int.eq_ofNat_of_zero_le (bd5_u8 w3).1
    obtain ⟨k4, rfl⟩ := Int.eq_ofNat_of_zero_le (bd5_u16 w4).1
    have plain : ∀ j, ((⟨b, off, none⟩ : Addr).add (i * 5)).add j = ⟨b, off + i * 5 + j, none⟩ := fun j => by
      rw [add_add, add_plain, Nat.add_assoc]
    have g0 := hcell.2.2 0 (by decide)
    have g1 := hcell.2.2 1 (by decide)
    have g2 := hcell.2.2 2 (by decide)
    have g3 := hcell.2.2 3 (by decide)
    have g4 := hcell.2.2 4 (by decide)
    rw [plain] at g0 g1 g2 g3 g4
    refine ⟨⟨k0, k1, k2, k3, k4⟩, ⟨?_, ?_, ?_, ?_, ?_⟩, ⟨by simpa using g0, by simpa using g1, by simpa using g2, by simpa using g3, by simpa using g4⟩⟩
    · have := (bd5_u8 w0).2; dsimp only; omega
    · have := (bd5_u8 w1).2; dsimp only; omega
    · have := (bd5_u32 w2).2; dsimp only; omega
    · have := (bd5_u8 w3).2; dsimp only; omega
    · have := (bd5_u16 w4).2; dsimp only; omega

/-- What the walks take of the steps. -/
theorem open_steps {H : Type} {enc : TypeId × Value → H} {W : World} {base : Nat} {spare : Nat → Bool} {held : Bool} {a : Option Addr} {len cap : Nat} {d : DataW H} {p : List MemPlace}
    (h : DataW.Trod enc Try.prog W base spare held 22 (.slice a len cap) d p) :
    len ≤ 9223372036854775807 ∧ ∃ f : Nat → Rc.Stp, (∀ i, (f i).Ok) ∧ ∀ i, i < len → ∃ b off, a = some ⟨b, off, none⟩ ∧ StpAt W b (off + i * 5) (f i) := by
  obtain ⟨fuel, hf⟩ := h
  have zero : ∃ f : Nat → Rc.Stp, (∀ i, (f i).Ok) := ⟨fun _ => ⟨0, 0, 0, 0, 0⟩, fun _ => stp0⟩
  rcases open_slice Try.underlying22 hf with ⟨hcs, _⟩ | ⟨a', l, c', m, n, D, Pl, hcs, _, hl, hm, hmm, _, hel⟩
  · simp [Value.cells] at hcs
    obtain ⟨rfl, rfl, rfl⟩ := hcs
    obtain ⟨f, hf⟩ := zero
    exact ⟨by omega, f, hf, fun i hi => by omega⟩
  · simp [Value.cells] at hcs
    obtain ⟨rfl, rfl, rfl⟩ := hcs
    rw [cellsStp] at hel
    have hlm : len ≤ m := by rw [hmm]; split <;> omega
    by_cases hl0 : len = 0
    · obtain ⟨f, hf⟩ := zero
      exact ⟨by omega, f, hf, fun i hi => by omega⟩
    · obtain ⟨cs0, hc0, _⟩ := hel 0 (by omega)
      obtain ⟨B, off, spot⟩ := a'
      have hcell0 := (World.cells?_some hc0).2.2 0 (by decide)
      have hlen0 := (World.cells?_some hc0).2.1
      have hspot : spot = none := by
        have : ∃ u, W.cell? ((((⟨B, off, spot⟩ : Addr).add (0 * 5))).add 0) = some u := ⟨cs0[0]'(by omega), by rw [hcell0, List.getElem?_eq_getElem]⟩
        obtain ⟨u, hu⟩ := this
        simpa [Addr.add] using World.cell?_spot hu
      subst hspot
      have hex : ∀ i, ∃ p : Rc.Stp, p.Ok ∧ (i < len → StpAt W B (off + i * 5) p) := by
        intro i
        by_cases hi : i < len
        · obtain ⟨cs, hc, ht⟩ := hel i (by omega)
          obtain ⟨p, hp, hat⟩ := stp_of hc ht
          exact ⟨p, hp, fun _ => hat⟩
        · exact ⟨⟨0, 0, 0, 0, 0⟩, stp0, fun h => absurd h hi⟩
      obtain ⟨f, hff⟩ := Classical.axiomOfChoice hex
      exact ⟨by unfold maxLen at hm; omega, f, fun i => (hff i).1, fun i hi => ⟨B, off, rfl, (hff i).2 hi⟩⟩
theorem below_of {w w' : World} (h : Fr (fun _ => False) w w') : Below w.heap.size w w' := h.below (fun _ h => h.elim)
end Go.Proofs.Ytpddocehjljofaa
