/- What the asks of layer 5's laws hold. -/
import Derived.Test.YtpddocehjljofaaOpn
import Derived.Test.YtpddocehjljofaaOpp
import Derived.ChangeArms
namespace Go.Proofs.Ytpddocehjljofaa
set_option linter.unusedVariables false
open Go.ChangeShapes Go.WideShapes Go.ChangeAt Go.RowKit Go.Deep

theorem cells_ask : Try.prog.cellsOf 98 = 3 := by kernel_rfl
theorem cells_str : Try.prog.cellsOf 9 = 1 := by kernel_rfl
theorem cells_bl : Try.prog.cellsOf 4 = 1 := by kernel_rfl
/-- A sign, a text, a mark. -/
structure AskAt (w : World) (b o : Nat) (x : UInt8 × ByteArray × Bool) : Prop where
  c0 : w.cell? ⟨b, o, none⟩ = some (.int .u8 (x.1.toNat : Int))
  c1 : w.cell? ⟨b, o + 1, none⟩ = some (.string x.2.1)
  c2 : w.cell? ⟨b, o + 2, none⟩ = some (.bool x.2.2)
set_option maxRecDepth 100000 in
theorem open_asks {H : Type} {enc : TypeId × Value → H} {W : World} {base : Nat} {spare : Nat → Bool} {held : Bool} {a : Option Addr} {len cap : Nat} {d : DataW H} {p : List MemPlace}
    (h : DataW.Trod enc Try.prog W base spare held 96 (.slice a len cap) d p) :
    len ≤ 9223372036854775807 ∧ ∃ f : Nat → UInt8 × ByteArray × Bool, (∀ i, (f i).2.1.size ≤ maxLen) ∧ ∀ i, i < len → ∃ b off, a = some ⟨b, off, none⟩ ∧ AskAt W b (off + i * 3) (f i) :=
  open_elems Try.underlying96 cells_ask (by decide) (fun n : UInt8 × ByteArray × Bool => n.2.1.size ≤ maxLen) (fun b o n => AskAt W b o n) (0, ⟨#[]⟩, false) (by decide) (fun {n i b off cs x} hc ht => by
    have hcell := World.cells?_some hc
    obtain ⟨xs, m, _, _, hl, hlen, hg⟩ := DataW.trod_struct Try.underlying98 ht
    match cs, hcell.2.1 with
    | [u0, u1, u2], _ =>
      match xs, hlen with
      | [y0, y1, y2], _ =>
        have h0 : DataW.trod enc Try.prog W base spare held m 5 (([u0, u1, u2].drop 0).take (Try.prog.cellsOf 5)) = some y0 := hg 0 _ rfl
        rw [cells_u8] at h0
        have h1 : DataW.trod enc Try.prog W base spare held m 9 (([u0, u1, u2].drop 1).take (Try.prog.cellsOf 9)) = some y1 := hg 1 _ rfl
        rw [cells_str] at h1
        have h2 : DataW.trod enc Try.prog W base spare held m 4 (([u0, u1, u2].drop 2).take (Try.prog.cellsOf 4)) = some y2 := hg 2 _ rfl
        rw [cells_bl] at h2
        obtain ⟨k0, e0, _, w0⟩ := DataW.trod_int (cs := [u0]) Try.underlying5 h0
        obtain ⟨k1, e1, _, w1⟩ := DataW.trod_string (cs := [u1]) Try.underlying9 h1
        obtain ⟨k2, e2, _⟩ := DataW.trod_bool (cs := [u2]) Try.underlying4 h2
        simp at e0 e1 e2
        subst e0 e1 e2
        obtain ⟨k0, rfl⟩ := Int.eq_ofNat_of_zero_le (bdo_u8 w0).1
        have hk : k0 < 256 := by have := (bdo_u8 w0).2; omega
        have g0 := hcell.2.2 0 (by decide)
        have g1 := hcell.2.2 1 (by decide)
        have g2 := hcell.2.2 2 (by decide)
        rw [plain_add] at g0 g1 g2
        refine ⟨(UInt8.ofNat k0, k1, k2), w1, ⟨?_, by simpa using g1, by simpa using g2⟩⟩
        have : (UInt8.ofNat k0).toNat = k0 := by simp [Nat.mod_eq_of_lt hk]
        dsimp only
        rw [this]
        simpa using g0) h
end Go.Proofs.Ytpddocehjljofaa
