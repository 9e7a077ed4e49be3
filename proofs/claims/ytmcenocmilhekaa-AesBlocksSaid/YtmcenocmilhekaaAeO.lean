/- An array of sixteen bytes as an argument, opened. -/
import Derived.Test.YtmcenocmilhekaaAeG
import Derived.OpenShut
import Derived.WideShapes
namespace Go.Proofs.Ytmcenocmilhekaa
set_option linter.unusedVariables false
open Go.RowKit Go.My Go.Aes

theorem wf_u8 {n : Int} (h : (Lit.int .u8 n).wf = true) : 0 ≤ n ∧ n < 256 := by
  simp [Lit.wf, IntKind.min, IntKind.max, IntKind.bits, IntKind.signed] at h
  omega
theorem nat_cells : ∀ (l : List Value), (∀ v ∈ l, ∃ n : Nat, n < 256 ∧ v = .int .u8 (n : Int)) → ∃ ns : List Nat, ns.length = l.length ∧ (∀ i, ns.getD i 0 < 256) ∧ l = ns.map (fun x : Nat => Value.int .u8 (x : Int))
  | [], _ => ⟨[], rfl, fun i => by simp, rfl⟩
  | v :: l, h => by
    obtain ⟨n, hn, rfl⟩ := h v (by simp)
    obtain ⟨ns, h1, h2, h3⟩ := nat_cells l (fun u hu => h u (by simp [hu]))
    refine ⟨n :: ns, by simp [h1], fun i => ?_, by simp [← h3]⟩
    cases i with
    | zero => exact hn
    | succ i => exact h2 i
theorem open_arr16 {H : Type} {enc : TypeId × Value → H} {W : World} {base : Nat} {spare : Nat → Bool} {held : Bool} {v : Value} {d : DataW H} {ps : List MemPlace} {r : Reach} {b0 : Nat}
    (hval : Value.okWide Try.prog W r b0 22 v) (hd : DataW.Trod enc Try.prog W base spare held 22 v d ps) :
    ∃ ns : List Nat, ns.length = 16 ∧ (∀ i, ns.getD i 0 < 256) ∧ v = .agg (u8s ns) := by
  have hcell : Try.prog.cellsOf 5 = 1 := by kernel_rfl
  have hcell2 : Try.prog.cellsOf 22 = 16 := by kernel_rfl
  simp only [Value.okWide, Try.underlying22] at hval
  obtain ⟨cs, rfl, hsz, _⟩ := hval
  obtain ⟨fuel, hf⟩ := hd
  obtain ⟨xs, m, rfl, hx, hlen, hn, hel⟩ := DataW.trod_array Try.underlying22 hf
  rw [hcell2] at hsz
  have hv : (Value.agg cs).cells.toList = cs.toList := rfl
  rw [hv] at hel
  have hall : ∀ u ∈ cs.toList, ∃ n : Nat, n < 256 ∧ u = .int .u8 (n : Int) := by
    intro u hu
    obtain ⟨i, hi, rfl⟩ := List.mem_iff_getElem.1 hu
    have hi16 : i < 16 := by simpa [hsz] using hi
    have h := hel i hi16
    rw [hcell, Nat.mul_one, List.getElem?_eq_getElem (by omega)] at h
    have htk : (cs.toList.drop i).take 1 = [cs.toList[i]] := by
      rw [List.drop_eq_getElem_cons hi]
      rfl
    rw [htk] at h
    obtain ⟨n, h1, h2, h3⟩ := DataW.trod_int Try.underlying5 h
    have h4 : cs.toList[i] = .int .u8 n := by simpa using h1
    have := wf_u8 h3
    exact ⟨n.toNat, by omega, by rw [h4]; congr 1; omega⟩
  obtain ⟨ns, h1, h2, h3⟩ := nat_cells cs.toList hall
  refine ⟨ns, by rw [h1]; simpa using hsz, h2, ?_⟩
  congr 1
  unfold u8s
  rw [← h3]
end Go.Proofs.Ytmcenocmilhekaa
