/- A struct of five ints, opened. -/
import Derived.Test.YtlkiijojldnlbaaProg
import Derived.WalkKit
import Derived.ProofKit
import Derived.OpenShut
import Derived.Deep.Fields
namespace Go.Proofs.Ytlkiijojldnlbaa
open Go.ChangeShapes Go.WideShapes Go.ChangeAt Go.RowKit Go.Deep

theorem bd_i64 {a : Int} (h : (Lit.int .i64 a).wf = true) : -9223372036854775808 ≤ a ∧ a ≤ 9223372036854775807 := by
  simp [Lit.wf, IntKind.has, IntKind.min, IntKind.max, IntKind.bits, IntKind.signed] at h
  omega
theorem cells23 : Try.prog.cellsOf 23 = 5 := by kernel_rfl
theorem cells3 : Try.prog.cellsOf 3 = 1 := by kernel_rfl

theorem open5 {H : Type} {enc : TypeId × Value → H} {W : World} {base b0 : Nat} {r : Reach} {spare : Nat → Bool} {held : Bool} {v : Value} {d : DataW H} {p : List MemPlace}
    (hv : Value.okWide Try.prog W r b0 23 v) (h : DataW.Trod enc Try.prog W base spare held 23 v d p) :
    ∃ a b c d e : Int, v = .agg #[.int .i64 a, .int .i64 b, .int .i64 c, .int .i64 d, .int .i64 e] := by
  obtain ⟨cs, rfl, hsz⟩ := okWide_struct Try.underlying23 hv
  rw [cells23] at hsz
  obtain ⟨l⟩ := cs
  match l, hsz with
  | [u0, u1, u2, u3, u4], _ =>
    obtain ⟨fuel, hf⟩ := h
    obtain ⟨xs, n, _, _, _, hlen, hg⟩ := DataW.trod_struct Try.underlying23 hf
    match xs, hlen with
    | [y0, y1, y2, y3, y4], _ =>
      have h0 := hg 0 _ rfl
      have h1 := hg 1 _ rfl
      have h2 := hg 2 _ rfl
      have h3 := hg 3 _ rfl
      have h4 := hg 4 _ rfl
      simp only [cells3, Value.cells] at h0 h1 h2 h3 h4
      obtain ⟨k0, e0, _, _⟩ := DataW.trod_int (cs := [u0]) Try.underlying3 h0
      obtain ⟨k1, e1, _, _⟩ := DataW.trod_int (cs := [u1]) Try.underlying3 h1
      obtain ⟨k2, e2, _, _⟩ := DataW.trod_int (cs := [u2]) Try.underlying3 h2
      obtain ⟨k3, e3, _, _⟩ := DataW.trod_int (cs := [u3]) Try.underlying3 h3
      obtain ⟨k4, e4, _, _⟩ := DataW.trod_int (cs := [u4]) Try.underlying3 h4
      simp at e0 e1 e2 e3 e4
      exact ⟨k0, k1, k2, k3, k4, by rw [e0, e1, e2, e3, e4]⟩
end Go.Proofs.Ytlkiijojldnlbaa
