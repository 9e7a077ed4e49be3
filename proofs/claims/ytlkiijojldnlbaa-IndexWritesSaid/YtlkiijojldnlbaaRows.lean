/-
  No cell of these rows narrows 'for every input' (looked for: loops, veiled, ifaces, maps, wideKeys, modest, calm, conditions, laid).
  DERIVED. THE GIVEN ROWS OF THIS SEAT. 5 by the template 'for every input the law returns true; each argument reads behind the call as it read before'; 0 by the template 'total and deterministic' (their statements: YtlkiijojldnlbaaTotals.lean).
  GIVEN WITH THE SEED: the statements are not yours to turn. If you find one false, say at which input.
  Laid BY PROGRAM, IN A SANDBOX (cutbox-rows.mjs): the forced cells as the released guide's own fill.sh prints them over the translation e18f62cc4c19c9be… (all of the seat's roots in one cut). By AI agents, Wed Nov 11 2026. No macro, syntax, notation, axiom, sorry.
-/
import Derived.Test.YtlkiijojldnlbaaChecked
import GoSem.Claim
import GoSem.ClaimJoined
import GoSem.ClaimMapViews
import Derived.JoinedTies
import Derived.KernelRfl
namespace Go.Proofs.Ytlkiijojldnlbaa
/- THE CELL 'sum', in the pinned program and in every row, IS THE sha256 OF THE DUMP (.gsa) THAT YtlkiijojldnlbaaProg.lean LOADS. Nothing in Lean hashes anything: it is a label: what it is worth is what the hold of that sum in a sandbox is worth. -/
noncomputable def Try.pinned : Pinned := { name := "ytlkiijojldnlbaa", sum := "e18f62cc4c19c9be8193a0c7e31aaf20da47780afb68ba09adbad66190738232", checked := Try.checked }
namespace Rows
def none {H : Type} : Left H := { results := [], args := [] }

/-- 'cassonelaw15.PriceTells': WHATEVER THE INPUT: true; the input reads as it did. -/
def priceTellsSpec : ChangeSpec := { name := "priceTells", fn := fun _ => fun
  | [d1, d2, d3] => { results := [.lit (.bool true)], args := [d1, d2, d3] }
  | _ => none }
def priceTellsRow : OpenClaim := { program := "ytlkiijojldnlbaa", sum := "e18f62cc4c19c9be8193a0c7e31aaf20da47780afb68ba09adbad66190738232", func := "cassone/cassonelaw15.PriceTells", spec := "priceTells", apart := false }
def PriceTellsSaid : Prop := priceTellsRow.holds Try.pinned (OpenSpec.ofChange priceTellsSpec)

/-- ITS FALSE NEIGHBOUR: 'it returns false'. Refute it at one input. -/
def priceTellsWrong : ChangeSpec := { name := "priceTells", fn := fun _ => fun
  | [d1, d2, d3] => { results := [.lit (.bool false)], args := [d1, d2, d3] }
  | _ => none }
def PriceTellsWrongFalsely : Prop := priceTellsRow.holds Try.pinned (OpenSpec.ofChange priceTellsWrong)

/-- 'cassonelaw15.PriceSums': WHATEVER THE INPUT: true; the input reads as it did. -/
def priceSumsSpec : ChangeSpec := { name := "priceSums", fn := fun _ => fun
  | [d1, d2] => { results := [.lit (.bool true)], args := [d1, d2] }
  | _ => none }
def priceSumsRow : OpenClaim := { program := "ytlkiijojldnlbaa", sum := "e18f62cc4c19c9be8193a0c7e31aaf20da47780afb68ba09adbad66190738232", func := "cassone/cassonelaw15.PriceSums", spec := "priceSums", apart := false }
def PriceSumsSaid : Prop := priceSumsRow.holds Try.pinned (OpenSpec.ofChange priceSumsSpec)

/-- ITS FALSE NEIGHBOUR: 'it returns false'. Refute it at one input. -/
def priceSumsWrong : ChangeSpec := { name := "priceSums", fn := fun _ => fun
  | [d1, d2] => { results := [.lit (.bool false)], args := [d1, d2] }
  | _ => none }
def PriceSumsWrongFalsely : Prop := priceSumsRow.holds Try.pinned (OpenSpec.ofChange priceSumsWrong)

/-- 'cassonelaw27.IndexReads': WHATEVER THE INPUT: true; the input reads as it did. -/
def indexReadsSpec : ChangeSpec := { name := "indexReads", fn := fun _ => fun
  | [d] => { results := [.lit (.bool true)], args := [d] }
  | _ => none }
def indexReadsRow : OpenClaim := { program := "ytlkiijojldnlbaa", sum := "e18f62cc4c19c9be8193a0c7e31aaf20da47780afb68ba09adbad66190738232", func := "cassone/cassonelaw27.IndexReads", spec := "indexReads", inPlace := ["internal/abi.NoEscape"], apart := false }
def IndexReadsSaid : Prop := indexReadsRow.holds Try.pinned (OpenSpec.ofChange indexReadsSpec)

/-- ITS FALSE NEIGHBOUR: 'it returns false'. Refute it at one input. -/
def indexReadsWrong : ChangeSpec := { name := "indexReads", fn := fun _ => fun
  | [d] => { results := [.lit (.bool false)], args := [d] }
  | _ => none }
def IndexReadsWrongFalsely : Prop := indexReadsRow.holds Try.pinned (OpenSpec.ofChange indexReadsWrong)

/-- 'cassonelaw27.IndexBounds': WHATEVER THE INPUT: true; the input reads as it did. -/
def indexBoundsSpec : ChangeSpec := { name := "indexBounds", fn := fun _ => fun
  | [d1, d2] => { results := [.lit (.bool true)], args := [d1, d2] }
  | _ => none }
def indexBoundsRow : OpenClaim := { program := "ytlkiijojldnlbaa", sum := "e18f62cc4c19c9be8193a0c7e31aaf20da47780afb68ba09adbad66190738232", func := "cassone/cassonelaw27.IndexBounds", spec := "indexBounds", inPlace := ["internal/abi.NoEscape"], apart := false }
def IndexBoundsSaid : Prop := indexBoundsRow.holds Try.pinned (OpenSpec.ofChange indexBoundsSpec)

/-- ITS FALSE NEIGHBOUR: 'it returns false'. Refute it at one input. -/
def indexBoundsWrong : ChangeSpec := { name := "indexBounds", fn := fun _ => fun
  | [d1, d2] => { results := [.lit (.bool false)], args := [d1, d2] }
  | _ => none }
def IndexBoundsWrongFalsely : Prop := indexBoundsRow.holds Try.pinned (OpenSpec.ofChange indexBoundsWrong)

/-- 'cassonelaw27.IndexWrites': WHATEVER THE INPUT: true; the input reads as it did. -/
def indexWritesSpec : ChangeSpec := { name := "indexWrites", fn := fun _ => fun
  | [d1, d2] => { results := [.lit (.bool true)], args := [d1, d2] }
  | _ => none }
def indexWritesRow : OpenClaim := { program := "ytlkiijojldnlbaa", sum := "e18f62cc4c19c9be8193a0c7e31aaf20da47780afb68ba09adbad66190738232", func := "cassone/cassonelaw27.IndexWrites", spec := "indexWrites", inPlace := ["internal/abi.NoEscape"], apart := false }
def IndexWritesSaid : Prop := indexWritesRow.holds Try.pinned (OpenSpec.ofChange indexWritesSpec)

/-- ITS FALSE NEIGHBOUR: 'it returns false'. Refute it at one input. -/
def indexWritesWrong : ChangeSpec := { name := "indexWrites", fn := fun _ => fun
  | [d1, d2] => { results := [.lit (.bool false)], args := [d1, d2] }
  | _ => none }
def IndexWritesWrongFalsely : Prop := indexWritesRow.holds Try.pinned (OpenSpec.ofChange indexWritesWrong)

/- THE SECOND FORM. 'bulk': how many values and letters a reading holds, each counted each time it is reached (what is shared counts as often as it is met; a slice's spare places count too). A statement '..UptoSaid' is the law's where the arguments, and the package variables that the reading takes, are together of bulk at most 1048576: NARROWER than '..Said'. Prove '..Said' where nothing that the law and all that it calls make is longer than what came in: it says more and counts as full. Else prove '..UptoSaid'. A law counts once. -/
mutual
def uptoBulk {H : Type} : DataW H → Nat
  | .lit (.string bytes) => bytes.length + 1
  | .lit _ => 1
  | .nil => 1
  | .ptr d => uptoBulk d + 1
  | .slice elems spare => uptoBulkAll elems + uptoBulkAll spare + 1
  | .agg parts => uptoBulkAll parts + 1
  | .iface _ d => uptoBulk d + 1
  | .map entries => uptoBulkEntries entries + 1
  | .held _ => 1
def uptoBulkAll {H : Type} : List (DataW H) → Nat
  | [] => 0
  | d :: r => uptoBulk d + uptoBulkAll r
def uptoBulkEntries {H : Type} : List (Lit × DataW H) → Nat
  | [] => 0
  | x :: r => uptoBulkEntry x + uptoBulkEntries r
def uptoBulkEntry {H : Type} : Lit × DataW H → Nat
  | (.string bytes, d) => bytes.length + uptoBulk d + 1
  | (_, d) => uptoBulk d + 1
 end
def uptoSmall : (H : Type) → List (DataW H) → Bool := fun _ ds => decide (uptoBulkAll ds ≤ 1048576)
def OpenSpec.upto (s : _root_.Go.ChangeSpec) : _root_.Go.OpenSpec := { _root_.Go.OpenSpec.ofChange s with cond := some uptoSmall }

/-- 'cassonelaw15.PriceTells', WHERE WHAT IT READS IS OF BULK AT MOST 1048576: true; the input reads as it did. -/
def priceTellsUptoRow : OpenClaim := { program := "ytlkiijojldnlbaa", sum := "e18f62cc4c19c9be8193a0c7e31aaf20da47780afb68ba09adbad66190738232", func := "cassone/cassonelaw15.PriceTells", spec := "priceTells", apart := false, narrowed := true }
def PriceTellsUptoSaid : Prop := priceTellsUptoRow.holds Try.pinned (OpenSpec.upto priceTellsSpec)

/-- 'cassonelaw15.PriceSums', WHERE WHAT IT READS IS OF BULK AT MOST 1048576: true; the input reads as it did. -/
def priceSumsUptoRow : OpenClaim := { program := "ytlkiijojldnlbaa", sum := "e18f62cc4c19c9be8193a0c7e31aaf20da47780afb68ba09adbad66190738232", func := "cassone/cassonelaw15.PriceSums", spec := "priceSums", apart := false, narrowed := true }
def PriceSumsUptoSaid : Prop := priceSumsUptoRow.holds Try.pinned (OpenSpec.upto priceSumsSpec)

/-- 'cassonelaw27.IndexReads', WHERE WHAT IT READS IS OF BULK AT MOST 1048576: true; the input reads as it did. -/
def indexReadsUptoRow : OpenClaim := { program := "ytlkiijojldnlbaa", sum := "e18f62cc4c19c9be8193a0c7e31aaf20da47780afb68ba09adbad66190738232", func := "cassone/cassonelaw27.IndexReads", spec := "indexReads", inPlace := ["internal/abi.NoEscape"], apart := false, narrowed := true }
def IndexReadsUptoSaid : Prop := indexReadsUptoRow.holds Try.pinned (OpenSpec.upto indexReadsSpec)

/-- 'cassonelaw27.IndexBounds', WHERE WHAT IT READS IS OF BULK AT MOST 1048576: true; the input reads as it did. -/
def indexBoundsUptoRow : OpenClaim := { program := "ytlkiijojldnlbaa", sum := "e18f62cc4c19c9be8193a0c7e31aaf20da47780afb68ba09adbad66190738232", func := "cassone/cassonelaw27.IndexBounds", spec := "indexBounds", inPlace := ["internal/abi.NoEscape"], apart := false, narrowed := true }
def IndexBoundsUptoSaid : Prop := indexBoundsUptoRow.holds Try.pinned (OpenSpec.upto indexBoundsSpec)

/-- 'cassonelaw27.IndexWrites', WHERE WHAT IT READS IS OF BULK AT MOST 1048576: true; the input reads as it did. -/
def indexWritesUptoRow : OpenClaim := { program := "ytlkiijojldnlbaa", sum := "e18f62cc4c19c9be8193a0c7e31aaf20da47780afb68ba09adbad66190738232", func := "cassone/cassonelaw27.IndexWrites", spec := "indexWrites", inPlace := ["internal/abi.NoEscape"], apart := false, narrowed := true }
def IndexWritesUptoSaid : Prop := indexWritesUptoRow.holds Try.pinned (OpenSpec.upto indexWritesSpec)

end Rows
end Go.Proofs.Ytlkiijojldnlbaa
