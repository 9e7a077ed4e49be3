/-
  No cell of these rows narrows 'for every input' (looked for: loops, veiled, ifaces, maps, wideKeys, modest, calm, conditions, laid).
  DERIVED. THE GIVEN ROWS OF THIS SEAT. 9 by the template 'for every input the law returns true; each argument reads behind the call as it read before'; 0 by the template 'total and deterministic' (their statements: YtpddocehjljofaaTotals.lean).
  GIVEN WITH THE SEED: the statements are not yours to turn. If you find one false, say at which input.
  Laid BY PROGRAM, IN A SANDBOX (cutbox-rows.mjs): the forced cells as the released guide's own fill.sh prints them over the translation a1e754197a6a8e0a… (all of the seat's roots in one cut). By AI agents, Wed Nov 11 2026. No macro, syntax, notation, axiom, sorry.
-/
import Derived.Test.YtpddocehjljofaaChecked
import GoSem.Claim
import GoSem.ClaimJoined
import GoSem.ClaimMapViews
import Derived.JoinedTies
import Derived.KernelRfl
namespace Go.Proofs.Ytpddocehjljofaa
/- THE CELL 'sum', in the pinned program and in every row, IS THE sha256 OF THE DUMP (.gsa) THAT YtpddocehjljofaaProg.lean LOADS. Nothing in Lean hashes anything: it is a label: what it is worth is what the hold of that sum in a sandbox is worth. -/
noncomputable def Try.pinned : Pinned := { name := "ytpddocehjljofaa", sum := "a1e754197a6a8e0a67af53cb608f15eb37beecef30b7b02354a7e95173e12ee5", checked := Try.checked }
namespace Rows
def none {H : Type} : Left H := { results := [], args := [] }

/-- 'cassonelaw03.RcEncodes': WHATEVER THE INPUT: true; the input reads as it did. -/
def rcEncodesSpec : ChangeSpec := { name := "rcEncodes", fn := fun _ => fun
  | [d] => { results := [.lit (.bool true)], args := [d] }
  | _ => none }
def rcEncodesRow : OpenClaim := { program := "ytpddocehjljofaa", sum := "a1e754197a6a8e0a67af53cb608f15eb37beecef30b7b02354a7e95173e12ee5", func := "cassone/cassonelaw03.RcEncodes", spec := "rcEncodes", apart := false }
def RcEncodesSaid : Prop := rcEncodesRow.holds Try.pinned (OpenSpec.ofChange rcEncodesSpec)

/-- ITS FALSE NEIGHBOUR: 'it returns false'. Refute it at one input. -/
def rcEncodesWrong : ChangeSpec := { name := "rcEncodes", fn := fun _ => fun
  | [d] => { results := [.lit (.bool false)], args := [d] }
  | _ => none }
def RcEncodesWrongFalsely : Prop := rcEncodesRow.holds Try.pinned (OpenSpec.ofChange rcEncodesWrong)

/-- 'cassonelaw03.RcBack': WHATEVER THE INPUT: true; the input reads as it did. -/
def rcBackSpec : ChangeSpec := { name := "rcBack", fn := fun _ => fun
  | [d1, d2] => { results := [.lit (.bool true)], args := [d1, d2] }
  | _ => none }
def rcBackRow : OpenClaim := { program := "ytpddocehjljofaa", sum := "a1e754197a6a8e0a67af53cb608f15eb37beecef30b7b02354a7e95173e12ee5", func := "cassone/cassonelaw03.RcBack", spec := "rcBack", apart := false }
def RcBackSaid : Prop := rcBackRow.holds Try.pinned (OpenSpec.ofChange rcBackSpec)

/-- ITS FALSE NEIGHBOUR: 'it returns false'. Refute it at one input. -/
def rcBackWrong : ChangeSpec := { name := "rcBack", fn := fun _ => fun
  | [d1, d2] => { results := [.lit (.bool false)], args := [d1, d2] }
  | _ => none }
def RcBackWrongFalsely : Prop := rcBackRow.holds Try.pinned (OpenSpec.ofChange rcBackWrong)

/-- 'cassonelaw03.RcDecodes': WHATEVER THE INPUT: true; the input reads as it did. -/
def rcDecodesSpec : ChangeSpec := { name := "rcDecodes", fn := fun _ => fun
  | [d1, d2] => { results := [.lit (.bool true)], args := [d1, d2] }
  | _ => none }
def rcDecodesRow : OpenClaim := { program := "ytpddocehjljofaa", sum := "a1e754197a6a8e0a67af53cb608f15eb37beecef30b7b02354a7e95173e12ee5", func := "cassone/cassonelaw03.RcDecodes", spec := "rcDecodes", apart := false }
def RcDecodesSaid : Prop := rcDecodesRow.holds Try.pinned (OpenSpec.ofChange rcDecodesSpec)

/-- ITS FALSE NEIGHBOUR: 'it returns false'. Refute it at one input. -/
def rcDecodesWrong : ChangeSpec := { name := "rcDecodes", fn := fun _ => fun
  | [d1, d2] => { results := [.lit (.bool false)], args := [d1, d2] }
  | _ => none }
def RcDecodesWrongFalsely : Prop := rcDecodesRow.holds Try.pinned (OpenSpec.ofChange rcDecodesWrong)

/-- 'cassonelaw04.ProbsPut': WHATEVER THE INPUT: true; the input reads as it did. -/
def probsPutSpec : ChangeSpec := { name := "probsPut", fn := fun _ => fun
  | [d1, d2, d3] => { results := [.lit (.bool true)], args := [d1, d2, d3] }
  | _ => none }
def probsPutRow : OpenClaim := { program := "ytpddocehjljofaa", sum := "a1e754197a6a8e0a67af53cb608f15eb37beecef30b7b02354a7e95173e12ee5", func := "cassone/cassonelaw04.ProbsPut", spec := "probsPut", apart := false }
def ProbsPutSaid : Prop := probsPutRow.holds Try.pinned (OpenSpec.ofChange probsPutSpec)

/-- ITS FALSE NEIGHBOUR: 'it returns false'. Refute it at one input. -/
def probsPutWrong : ChangeSpec := { name := "probsPut", fn := fun _ => fun
  | [d1, d2, d3] => { results := [.lit (.bool false)], args := [d1, d2, d3] }
  | _ => none }
def ProbsPutWrongFalsely : Prop := probsPutRow.holds Try.pinned (OpenSpec.ofChange probsPutWrong)

/-- 'cassonelaw04.ProbsLike': WHATEVER THE INPUT: true; the input reads as it did. -/
def probsLikeSpec : ChangeSpec := { name := "probsLike", fn := fun _ => fun
  | [d] => { results := [.lit (.bool true)], args := [d] }
  | _ => none }
def probsLikeRow : OpenClaim := { program := "ytpddocehjljofaa", sum := "a1e754197a6a8e0a67af53cb608f15eb37beecef30b7b02354a7e95173e12ee5", func := "cassone/cassonelaw04.ProbsLike", spec := "probsLike", apart := false }
def ProbsLikeSaid : Prop := probsLikeRow.holds Try.pinned (OpenSpec.ofChange probsLikeSpec)

/-- ITS FALSE NEIGHBOUR: 'it returns false'. Refute it at one input. -/
def probsLikeWrong : ChangeSpec := { name := "probsLike", fn := fun _ => fun
  | [d] => { results := [.lit (.bool false)], args := [d] }
  | _ => none }
def ProbsLikeWrongFalsely : Prop := probsLikeRow.holds Try.pinned (OpenSpec.ofChange probsLikeWrong)

/-- 'cassonelaw04.ProbsBack': WHATEVER THE INPUT: true; the input reads as it did. -/
def probsBackSpec : ChangeSpec := { name := "probsBack", fn := fun _ => fun
  | [d1, d2] => { results := [.lit (.bool true)], args := [d1, d2] }
  | _ => none }
def probsBackRow : OpenClaim := { program := "ytpddocehjljofaa", sum := "a1e754197a6a8e0a67af53cb608f15eb37beecef30b7b02354a7e95173e12ee5", func := "cassone/cassonelaw04.ProbsBack", spec := "probsBack", apart := false }
def ProbsBackSaid : Prop := probsBackRow.holds Try.pinned (OpenSpec.ofChange probsBackSpec)

/-- ITS FALSE NEIGHBOUR: 'it returns false'. Refute it at one input. -/
def probsBackWrong : ChangeSpec := { name := "probsBack", fn := fun _ => fun
  | [d1, d2] => { results := [.lit (.bool false)], args := [d1, d2] }
  | _ => none }
def ProbsBackWrongFalsely : Prop := probsBackRow.holds Try.pinned (OpenSpec.ofChange probsBackWrong)

/-- 'cassonelaw05.FreqCounts': WHATEVER THE INPUT: true; the input reads as it did. -/
def freqCountsSpec : ChangeSpec := { name := "freqCounts", fn := fun _ => fun
  | [d] => { results := [.lit (.bool true)], args := [d] }
  | _ => none }
def freqCountsRow : OpenClaim := { program := "ytpddocehjljofaa", sum := "a1e754197a6a8e0a67af53cb608f15eb37beecef30b7b02354a7e95173e12ee5", func := "cassone/cassonelaw05.FreqCounts", spec := "freqCounts", apart := false }
def FreqCountsSaid : Prop := freqCountsRow.holds Try.pinned (OpenSpec.ofChange freqCountsSpec)

/-- ITS FALSE NEIGHBOUR: 'it returns false'. Refute it at one input. -/
def freqCountsWrong : ChangeSpec := { name := "freqCounts", fn := fun _ => fun
  | [d] => { results := [.lit (.bool false)], args := [d] }
  | _ => none }
def FreqCountsWrongFalsely : Prop := freqCountsRow.holds Try.pinned (OpenSpec.ofChange freqCountsWrong)

/-- 'cassonelaw05.FreqPuts': WHATEVER THE INPUT: true; the input reads as it did. -/
def freqPutsSpec : ChangeSpec := { name := "freqPuts", fn := fun _ => fun
  | [d1, d2] => { results := [.lit (.bool true)], args := [d1, d2] }
  | _ => none }
def freqPutsRow : OpenClaim := { program := "ytpddocehjljofaa", sum := "a1e754197a6a8e0a67af53cb608f15eb37beecef30b7b02354a7e95173e12ee5", func := "cassone/cassonelaw05.FreqPuts", spec := "freqPuts", apart := false }
def FreqPutsSaid : Prop := freqPutsRow.holds Try.pinned (OpenSpec.ofChange freqPutsSpec)

/-- ITS FALSE NEIGHBOUR: 'it returns false'. Refute it at one input. -/
def freqPutsWrong : ChangeSpec := { name := "freqPuts", fn := fun _ => fun
  | [d1, d2] => { results := [.lit (.bool false)], args := [d1, d2] }
  | _ => none }
def FreqPutsWrongFalsely : Prop := freqPutsRow.holds Try.pinned (OpenSpec.ofChange freqPutsWrong)

/-- 'cassonelaw05.FreqBack': WHATEVER THE INPUT: true; the input reads as it did. -/
def freqBackSpec : ChangeSpec := { name := "freqBack", fn := fun _ => fun
  | [d1, d2] => { results := [.lit (.bool true)], args := [d1, d2] }
  | _ => none }
def freqBackRow : OpenClaim := { program := "ytpddocehjljofaa", sum := "a1e754197a6a8e0a67af53cb608f15eb37beecef30b7b02354a7e95173e12ee5", func := "cassone/cassonelaw05.FreqBack", spec := "freqBack", apart := false }
def FreqBackSaid : Prop := freqBackRow.holds Try.pinned (OpenSpec.ofChange freqBackSpec)

/-- ITS FALSE NEIGHBOUR: 'it returns false'. Refute it at one input. -/
def freqBackWrong : ChangeSpec := { name := "freqBack", fn := fun _ => fun
  | [d1, d2] => { results := [.lit (.bool false)], args := [d1, d2] }
  | _ => none }
def FreqBackWrongFalsely : Prop := freqBackRow.holds Try.pinned (OpenSpec.ofChange freqBackWrong)

/- THE SECOND FORM. 'bulk': how many values and letters a reading holds, each counted each time it is reached (what is shared counts as often as it is met; a slice's spare places count too). A statement '..UptoSaid' is the law's where the arguments, and the package variables that the reading takes, are together of bulk at most 1048576: NARROWER than '..Said'. Prove '..Said' where nothing that the law and all that it calls make is longer than what came in: it says more and counts as full. Else prove '..UptoSaid'. A law counts once. -/
mutual
def uptoBulk {H : Type} : DataW H → Nat
  | .lit (.string bytes) => bytes.length + 1
  | .lit _ => 1
  | .nil => 1
  | .ptr d => uptoBulk d + 1
  | .slice elems spare => uptoBulkAll elems + uptoBulkAll spare + 1
  | .agg parts => uptoBulkAll parts + 1
  | .iface _ d => uptoBulk d + 1
  | .map entries => uptoBulkEntries entries + 1
  | .held _ => 1
def uptoBulkAll {H : Type} : List (DataW H) → Nat
  | [] => 0
  | d :: r => uptoBulk d + uptoBulkAll r
def uptoBulkEntries {H : Type} : List (Lit × DataW H) → Nat
  | [] => 0
  | x :: r => uptoBulkEntry x + uptoBulkEntries r
def uptoBulkEntry {H : Type} : Lit × DataW H → Nat
  | (.string bytes, d) => bytes.length + uptoBulk d + 1
  | (_, d) => uptoBulk d + 1
 end
def uptoSmall : (H : Type) → List (DataW H) → Bool := fun _ ds => decide (uptoBulkAll ds ≤ 1048576)
def OpenSpec.upto (s : _root_.Go.ChangeSpec) : _root_.Go.OpenSpec := { _root_.Go.OpenSpec.ofChange s with cond := some uptoSmall }

/-- 'cassonelaw03.RcEncodes', WHERE WHAT IT READS IS OF BULK AT MOST 1048576: true; the input reads as it did. -/
def rcEncodesUptoRow : OpenClaim := { program := "ytpddocehjljofaa", sum := "a1e754197a6a8e0a67af53cb608f15eb37beecef30b7b02354a7e95173e12ee5", func := "cassone/cassonelaw03.RcEncodes", spec := "rcEncodes", apart := false, narrowed := true }
def RcEncodesUptoSaid : Prop := rcEncodesUptoRow.holds Try.pinned (OpenSpec.upto rcEncodesSpec)

/-- 'cassonelaw03.RcBack', WHERE WHAT IT READS IS OF BULK AT MOST 1048576: true; the input reads as it did. -/
def rcBackUptoRow : OpenClaim := { program := "ytpddocehjljofaa", sum := "a1e754197a6a8e0a67af53cb608f15eb37beecef30b7b02354a7e95173e12ee5", func := "cassone/cassonelaw03.RcBack", spec := "rcBack", apart := false, narrowed := true }
def RcBackUptoSaid : Prop := rcBackUptoRow.holds Try.pinned (OpenSpec.upto rcBackSpec)

/-- 'cassonelaw03.RcDecodes', WHERE WHAT IT READS IS OF BULK AT MOST 1048576: true; the input reads as it did. -/
def rcDecodesUptoRow : OpenClaim := { program := "ytpddocehjljofaa", sum := "a1e754197a6a8e0a67af53cb608f15eb37beecef30b7b02354a7e95173e12ee5", func := "cassone/cassonelaw03.RcDecodes", spec := "rcDecodes", apart := false, narrowed := true }
def RcDecodesUptoSaid : Prop := rcDecodesUptoRow.holds Try.pinned (OpenSpec.upto rcDecodesSpec)

/-- 'cassonelaw04.ProbsPut', WHERE WHAT IT READS IS OF BULK AT MOST 1048576: true; the input reads as it did. -/
def probsPutUptoRow : OpenClaim := { program := "ytpddocehjljofaa", sum := "a1e754197a6a8e0a67af53cb608f15eb37beecef30b7b02354a7e95173e12ee5", func := "cassone/cassonelaw04.ProbsPut", spec := "probsPut", apart := false, narrowed := true }
def ProbsPutUptoSaid : Prop := probsPutUptoRow.holds Try.pinned (OpenSpec.upto probsPutSpec)

/-- 'cassonelaw04.ProbsLike', WHERE WHAT IT READS IS OF BULK AT MOST 1048576: true; the input reads as it did. -/
def probsLikeUptoRow : OpenClaim := { program := "ytpddocehjljofaa", sum := "a1e754197a6a8e0a67af53cb608f15eb37beecef30b7b02354a7e95173e12ee5", func := "cassone/cassonelaw04.ProbsLike", spec := "probsLike", apart := false, narrowed := true }
def ProbsLikeUptoSaid : Prop := probsLikeUptoRow.holds Try.pinned (OpenSpec.upto probsLikeSpec)

/-- 'cassonelaw04.ProbsBack', WHERE WHAT IT READS IS OF BULK AT MOST 1048576: true; the input reads as it did. -/
def probsBackUptoRow : OpenClaim := { program := "ytpddocehjljofaa", sum := "a1e754197a6a8e0a67af53cb608f15eb37beecef30b7b02354a7e95173e12ee5", func := "cassone/cassonelaw04.ProbsBack", spec := "probsBack", apart := false, narrowed := true }
def ProbsBackUptoSaid : Prop := probsBackUptoRow.holds Try.pinned (OpenSpec.upto probsBackSpec)

/-- 'cassonelaw05.FreqCounts', WHERE WHAT IT READS IS OF BULK AT MOST 1048576: true; the input reads as it did. -/
def freqCountsUptoRow : OpenClaim := { program := "ytpddocehjljofaa", sum := "a1e754197a6a8e0a67af53cb608f15eb37beecef30b7b02354a7e95173e12ee5", func := "cassone/cassonelaw05.FreqCounts", spec := "freqCounts", apart := false, narrowed := true }
def FreqCountsUptoSaid : Prop := freqCountsUptoRow.holds Try.pinned (OpenSpec.upto freqCountsSpec)

/-- 'cassonelaw05.FreqPuts', WHERE WHAT IT READS IS OF BULK AT MOST 1048576: true; the input reads as it did. -/
def freqPutsUptoRow : OpenClaim := { program := "ytpddocehjljofaa", sum := "a1e754197a6a8e0a67af53cb608f15eb37beecef30b7b02354a7e95173e12ee5", func := "cassone/cassonelaw05.FreqPuts", spec := "freqPuts", apart := false, narrowed := true }
def FreqPutsUptoSaid : Prop := freqPutsUptoRow.holds Try.pinned (OpenSpec.upto freqPutsSpec)

/-- 'cassonelaw05.FreqBack', WHERE WHAT IT READS IS OF BULK AT MOST 1048576: true; the input reads as it did. -/
def freqBackUptoRow : OpenClaim := { program := "ytpddocehjljofaa", sum := "a1e754197a6a8e0a67af53cb608f15eb37beecef30b7b02354a7e95173e12ee5", func := "cassone/cassonelaw05.FreqBack", spec := "freqBack", apart := false, narrowed := true }
def FreqBackUptoSaid : Prop := freqBackUptoRow.holds Try.pinned (OpenSpec.upto freqBackSpec)

end Rows
end Go.Proofs.Ytpddocehjljofaa
