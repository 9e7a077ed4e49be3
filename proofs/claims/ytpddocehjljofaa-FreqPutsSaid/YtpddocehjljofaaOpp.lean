/- What the slices of layer 4's laws hold. -/
import Derived.Test.YtpddocehjljofaaOpn
namespace Go.Proofs.Ytpddocehjljofaa
set_option linter.unusedVariables false
open Go.ChangeShapes Go.WideShapes Go.ChangeAt Go.RowKit Go.Deep

theorem cells_u16 : Try.prog.cellsOf 31 = 1 := by kernel_rfl
theorem cells_b2 : Try.prog.cellsOf 79 = 2 := by kernel_rfl
theorem cells_u8 : Try.prog.cellsOf 5 = 1 := by kernel_rfl
theorem open_u16s {H : Type} {enc : TypeId × Value → H} {W : World} {base : Nat} {spare : Nat → Bool} {held : Bool} {a : Option Addr} {len cap : Nat} {d : DataW H} {p : List MemPlace}
    (h : DataW.Trod enc Try.prog W base spare held 67 (.slice a len cap) d p) :
    len ≤ 9223372036854775807 ∧ ∃ f : Nat → Nat, (∀ i, f i < 65536) ∧ ∀ i, i < len → ∃ b off, a = some ⟨b, off, none⟩ ∧ W.cell? ⟨b, off + i, none⟩ = some (.int .u16 (f i : Int)) := by
  have hh := open_elems Try.underlying67 cells_u16 (by decide) (fun n : Nat => n < 65536) (fun b o n => W.cell? ⟨b, o, none⟩ = some (.int .u16 (n : Int))) 0 (by decide) (fun {n i b off cs x} hc ht => by
    have hcell := World.cells?_some hc
    match cs, hcell.2.1 with
    | [u0], _ =>
      obtain ⟨k0, e0, _, w0⟩ := DataW.trod_int (cs := [u0]) Try.underlying31 ht
      simp at e0
      subst e0
      obtain ⟨k0, rfl⟩ := Int.eq_ofNat_of_zero_le (bdo_u16 w0).1
      have g0 := hcell.2.2 0 (by decide)
      rw [plain_add] at g0
      exact ⟨k0, by have := (bdo_u16 w0).2; omega, by simpa using g0⟩) h
  simpa using hh
/-- Two bytes. -/
structure B2At (w : World) (b o : Nat) (x : Nat × Nat) : Prop where
  c0 : w.cell? ⟨b, o, none⟩ = some (.int .u8 (x.1 : Int))
  c1 : w.cell? ⟨b, o + 1, none⟩ = some (.int .u8 (x.2 : Int))
theorem open_b2s {H : Type} {enc : TypeId × Value → H} {W : World} {base : Nat} {spare : Nat → Bool} {held : Bool} {a : Option Addr} {len cap : Nat} {d : DataW H} {p : List MemPlace}
    (h : DataW.Trod enc Try.prog W base spare held 77 (.slice a len cap) d p) :
    len ≤ 9223372036854775807 ∧ ∃ f : Nat → Nat × Nat, (∀ i, (f i).1 < 256 ∧ (f i).2 < 256) ∧ ∀ i, i < len → ∃ b off, a = some ⟨b, off, none⟩ ∧ B2At W b (off + i * 2) (f i) :=
  open_elems Try.underlying77 cells_b2 (by decide) (fun n : Nat × Nat => n.1 < 256 ∧ n.2 < 256) (fun b o n => B2At W b o n) (0, 0) (by decide) (fun {n i b off cs x} hc ht => by
    have hcell := World.cells?_some hc
    obtain ⟨xs, m, _, _, _, hl, hg⟩ := DataW.trod_array Try.underlying79 ht
    have hg2 : ∀ i, i < 2 → DataW.trod enc Try.prog W base spare held m 5 ((cs.drop (i * 1)).take 1) = xs[i]? := by
      intro i hi
      have := hg i hi
      rw [cells_u8] at this
      exact this
    clear hg
    match cs, hcell.2.1 with
    | [u0, u1], _ =>
      match xs, hl with
      | [y0, y1], _ =>
        have h0 := hg2 0 (by decide)
        have h1 := hg2 1 (by decide)
        obtain ⟨k0, e0, _, w0⟩ := DataW.trod_int (cs := [u0]) Try.underlying5 h0
        obtain ⟨k1, e1, _, w1⟩ := DataW.trod_int (cs := [u1]) Try.underlying5 h1
        simp at e0 e1
        subst e0 e1
        obtain ⟨k0, rfl⟩ := Int.eq_ofNat_of_zero_le (bdo_u8 w0).1
        obtain ⟨k1, rfl⟩ := Int.eq_ofNat_of_zero_le (bdo_u8 w1).1
        have g0 := hcell.2.2 0 (by decide)
        have g1 := hcell.2.2 1 (by decide)
        rw [plain_add] at g0 g1
        exact ⟨(k0, k1), ⟨by have := (bdo_u8 w0).2; dsimp only; omega, by have := (bdo_u8 w1).2; dsimp only; omega⟩, ⟨by simpa using g0, by simpa using g1⟩⟩) h
end Go.Proofs.Ytpddocehjljofaa
