/-
  No cell of these rows narrows 'for every input' (looked for: loops, veiled, ifaces, maps, wideKeys, modest, calm, conditions, laid).
  DERIVED. THE GIVEN ROWS OF THIS SEAT. 5 by the template 'for every input the law returns true; each argument reads behind the call as it read before'; 0 by the template 'total and deterministic' (their statements: YtjdmkffhhlijnaaTotals.lean).
  GIVEN WITH THE SEED: the statements are not yours to turn. If you find one false, say at which input.
  Laid BY PROGRAM, IN A SANDBOX (cutbox-rows.mjs): the forced cells as the released guide's own fill.sh prints them over the translation 20d9dcac23d99935… (all of the seat's roots in one cut). By AI agents, Wed Nov 11 2026. No macro, syntax, notation, axiom, sorry.
-/
import Derived.Test.YtjdmkffhhlijnaaChecked
import GoSem.Claim
import GoSem.ClaimJoined
import GoSem.ClaimMapViews
import Derived.JoinedTies
import Derived.KernelRfl
namespace Go.Proofs.Ytjdmkffhhlijnaa
/- THE CELL 'sum', in the pinned program and in every row, IS THE sha256 OF THE DUMP (.gsa) THAT YtjdmkffhhlijnaaProg.lean LOADS. Nothing in Lean hashes anything: it is a label: what it is worth is what the hold of that sum in a sandbox is worth. -/
noncomputable def Try.pinned : Pinned := { name := "ytjdmkffhhlijnaa", sum := "20d9dcac23d9993516b568df633e49b2a524f11e9456bb062e5056007ba8c884", checked := Try.checked }
namespace Rows
def none {H : Type} : Left H := { results := [], args := [] }

/-- 'cassonelaw07.ChainFinds': WHATEVER THE INPUT: true; the input reads as it did. -/
def chainFindsSpec : ChangeSpec := { name := "chainFinds", fn := fun _ => fun
  | [d1, d2, d3] => { results := [.lit (.bool true)], args := [d1, d2, d3] }
  | _ => none }
def chainFindsRow : OpenClaim := { program := "ytjdmkffhhlijnaa", sum := "20d9dcac23d9993516b568df633e49b2a524f11e9456bb062e5056007ba8c884", func := "cassone/cassonelaw07.ChainFinds", spec := "chainFinds", plainKeys := false, apart := false }
def ChainFindsSaid : Prop := chainFindsRow.holds Try.pinned (OpenSpec.ofChange chainFindsSpec)

/-- ITS FALSE NEIGHBOUR: 'it returns false'. Refute it at one input. -/
def chainFindsWrong : ChangeSpec := { name := "chainFinds", fn := fun _ => fun
  | [d1, d2, d3] => { results := [.lit (.bool false)], args := [d1, d2, d3] }
  | _ => none }
def ChainFindsWrongFalsely : Prop := chainFindsRow.holds Try.pinned (OpenSpec.ofChange chainFindsWrong)

/-- 'cassonelaw07.ChainRises': WHATEVER THE INPUT: true; the input reads as it did. -/
def chainRisesSpec : ChangeSpec := { name := "chainRises", fn := fun _ => fun
  | [d1, d2, d3] => { results := [.lit (.bool true)], args := [d1, d2, d3] }
  | _ => none }
def chainRisesRow : OpenClaim := { program := "ytjdmkffhhlijnaa", sum := "20d9dcac23d9993516b568df633e49b2a524f11e9456bb062e5056007ba8c884", func := "cassone/cassonelaw07.ChainRises", spec := "chainRises", plainKeys := false, apart := false }
def ChainRisesSaid : Prop := chainRisesRow.holds Try.pinned (OpenSpec.ofChange chainRisesSpec)

/-- ITS FALSE NEIGHBOUR: 'it returns false'. Refute it at one input. -/
def chainRisesWrong : ChangeSpec := { name := "chainRises", fn := fun _ => fun
  | [d1, d2, d3] => { results := [.lit (.bool false)], args := [d1, d2, d3] }
  | _ => none }
def ChainRisesWrongFalsely : Prop := chainRisesRow.holds Try.pinned (OpenSpec.ofChange chainRisesWrong)

/-- 'cassonelaw08.BstFinds': WHATEVER THE INPUT: true; the input reads as it did. -/
def bstFindsSpec : ChangeSpec := { name := "bstFinds", fn := fun _ => fun
  | [d1, d2] => { results := [.lit (.bool true)], args := [d1, d2] }
  | _ => none }
def bstFindsRow : OpenClaim := { program := "ytjdmkffhhlijnaa", sum := "20d9dcac23d9993516b568df633e49b2a524f11e9456bb062e5056007ba8c884", func := "cassone/cassonelaw08.BstFinds", spec := "bstFinds", unfollowed := true, recurses := true, plainKeys := false, apart := false }
def BstFindsSaid : Prop := bstFindsRow.holds Try.pinned (OpenSpec.ofChange bstFindsSpec)

/-- ITS FALSE NEIGHBOUR: 'it returns false'. Refute it at one input. -/
def bstFindsWrong : ChangeSpec := { name := "bstFinds", fn := fun _ => fun
  | [d1, d2] => { results := [.lit (.bool false)], args := [d1, d2] }
  | _ => none }
def BstFindsWrongFalsely : Prop := bstFindsRow.holds Try.pinned (OpenSpec.ofChange bstFindsWrong)

/-- 'cassonelaw08.BstLong': WHATEVER THE INPUT: true; the input reads as it did. -/
def bstLongSpec : ChangeSpec := { name := "bstLong", fn := fun _ => fun
  | [d1, d2] => { results := [.lit (.bool true)], args := [d1, d2] }
  | _ => none }
def bstLongRow : OpenClaim := { program := "ytjdmkffhhlijnaa", sum := "20d9dcac23d9993516b568df633e49b2a524f11e9456bb062e5056007ba8c884", func := "cassone/cassonelaw08.BstLong", spec := "bstLong", unfollowed := true, recurses := true, plainKeys := false, apart := false }
def BstLongSaid : Prop := bstLongRow.holds Try.pinned (OpenSpec.ofChange bstLongSpec)

/-- ITS FALSE NEIGHBOUR: 'it returns false'. Refute it at one input. -/
def bstLongWrong : ChangeSpec := { name := "bstLong", fn := fun _ => fun
  | [d1, d2] => { results := [.lit (.bool false)], args := [d1, d2] }
  | _ => none }
def BstLongWrongFalsely : Prop := bstLongRow.holds Try.pinned (OpenSpec.ofChange bstLongWrong)

/-- 'cassonelaw08.BstChain': WHATEVER THE INPUT: true; the input reads as it did. -/
def bstChainSpec : ChangeSpec := { name := "bstChain", fn := fun _ => fun
  | [d1, d2] => { results := [.lit (.bool true)], args := [d1, d2] }
  | _ => none }
def bstChainRow : OpenClaim := { program := "ytjdmkffhhlijnaa", sum := "20d9dcac23d9993516b568df633e49b2a524f11e9456bb062e5056007ba8c884", func := "cassone/cassonelaw08.BstChain", spec := "bstChain", unfollowed := true, recurses := true, plainKeys := false, apart := false }
def BstChainSaid : Prop := bstChainRow.holds Try.pinned (OpenSpec.ofChange bstChainSpec)

/-- ITS FALSE NEIGHBOUR: 'it returns false'. Refute it at one input. -/
def bstChainWrong : ChangeSpec := { name := "bstChain", fn := fun _ => fun
  | [d1, d2] => { results := [.lit (.bool false)], args := [d1, d2] }
  | _ => none }
def BstChainWrongFalsely : Prop := bstChainRow.holds Try.pinned (OpenSpec.ofChange bstChainWrong)

/- THE SECOND FORM. 'bulk': how many values and letters a reading holds, each counted each time it is reached (what is shared counts as often as it is met; a slice's spare places count too). A statement '..UptoSaid' is the law's where the arguments, and the package variables that the reading takes, are together of bulk at most 1048576: NARROWER than '..Said'. Prove '..Said' where nothing that the law and all that it calls make is longer than what came in: it says more and counts as full. Else prove '..UptoSaid'. A law counts once. -/
mutual
def uptoBulk {H : Type} : DataW H → Nat
  | .lit (.string bytes) => bytes.length + 1
  | .lit _ => 1
  | .nil => 1
  | .ptr d => uptoBulk d + 1
  | .slice elems spare => uptoBulkAll elems + uptoBulkAll spare + 1
  | .agg parts => uptoBulkAll parts + 1
  | .iface _ d => uptoBulk d + 1
  | .map entries => uptoBulkEntries entries + 1
  | .held _ => 1
def uptoBulkAll {H : Type} : List (DataW H) → Nat
  | [] => 0
  | d :: r => uptoBulk d + uptoBulkAll r
def uptoBulkEntries {H : Type} : List (Lit × DataW H) → Nat
  | [] => 0
  | x :: r => uptoBulkEntry x + uptoBulkEntries r
def uptoBulkEntry {H : Type} : Lit × DataW H → Nat
  | (.string bytes, d) => bytes.length + uptoBulk d + 1
  | (_, d) => uptoBulk d + 1
 end
def uptoSmall : (H : Type) → List (DataW H) → Bool := fun _ ds => decide (uptoBulkAll ds ≤ 1048576)
def OpenSpec.upto (s : _root_.Go.ChangeSpec) : _root_.Go.OpenSpec := { _root_.Go.OpenSpec.ofChange s with cond := some uptoSmall }

/-- 'cassonelaw07.ChainFinds', WHERE WHAT IT READS IS OF BULK AT MOST 1048576: true; the input reads as it did. -/
def chainFindsUptoRow : OpenClaim := { program := "ytjdmkffhhlijnaa", sum := "20d9dcac23d9993516b568df633e49b2a524f11e9456bb062e5056007ba8c884", func := "cassone/cassonelaw07.ChainFinds", spec := "chainFinds", plainKeys := false, apart := false, narrowed := true }
def ChainFindsUptoSaid : Prop := chainFindsUptoRow.holds Try.pinned (OpenSpec.upto chainFindsSpec)

/-- 'cassonelaw07.ChainRises', WHERE WHAT IT READS IS OF BULK AT MOST 1048576: true; the input reads as it did. -/
def chainRisesUptoRow : OpenClaim := { program := "ytjdmkffhhlijnaa", sum := "20d9dcac23d9993516b568df633e49b2a524f11e9456bb062e5056007ba8c884", func := "cassone/cassonelaw07.ChainRises", spec := "chainRises", plainKeys := false, apart := false, narrowed := true }
def ChainRisesUptoSaid : Prop := chainRisesUptoRow.holds Try.pinned (OpenSpec.upto chainRisesSpec)

/-- 'cassonelaw08.BstFinds', WHERE WHAT IT READS IS OF BULK AT MOST 1048576: true; the input reads as it did. -/
def bstFindsUptoRow : OpenClaim := { program := "ytjdmkffhhlijnaa", sum := "20d9dcac23d9993516b568df633e49b2a524f11e9456bb062e5056007ba8c884", func := "cassone/cassonelaw08.BstFinds", spec := "bstFinds", unfollowed := true, recurses := true, plainKeys := false, apart := false, narrowed := true }
def BstFindsUptoSaid : Prop := bstFindsUptoRow.holds Try.pinned (OpenSpec.upto bstFindsSpec)

/-- 'cassonelaw08.BstLong', WHERE WHAT IT READS IS OF BULK AT MOST 1048576: true; the input reads as it did. -/
def bstLongUptoRow : OpenClaim := { program := "ytjdmkffhhlijnaa", sum := "20d9dcac23d9993516b568df633e49b2a524f11e9456bb062e5056007ba8c884", func := "cassone/cassonelaw08.BstLong", spec := "bstLong", unfollowed := true, recurses := true, plainKeys := false, apart := false, narrowed := true }
def BstLongUptoSaid : Prop := bstLongUptoRow.holds Try.pinned (OpenSpec.upto bstLongSpec)

/-- 'cassonelaw08.BstChain', WHERE WHAT IT READS IS OF BULK AT MOST 1048576: true; the input reads as it did. -/
def bstChainUptoRow : OpenClaim := { program := "ytjdmkffhhlijnaa", sum := "20d9dcac23d9993516b568df633e49b2a524f11e9456bb062e5056007ba8c884", func := "cassone/cassonelaw08.BstChain", spec := "bstChain", unfollowed := true, recurses := true, plainKeys := false, apart := false, narrowed := true }
def BstChainUptoSaid : Prop := bstChainUptoRow.holds Try.pinned (OpenSpec.upto bstChainSpec)

end Rows
end Go.Proofs.Ytjdmkffhhlijnaa
