/-
  NARROWER THAN 'FOR EVERY INPUT', by the rows' own cells (each row's printed sentence says how): StateNext: laid · StateSlots: laid.
  DERIVED. THE GIVEN ROWS OF THIS SEAT. 2 by the template 'for every input the law returns true; each argument reads behind the call as it read before'; 0 by the template 'total and deterministic' (their statements: YtfmoagdhajfngaaDoorTotals.lean).
  GIVEN WITH THE SEED: the statements are not yours to turn. If you find one false, say at which input.
  Laid BY PROGRAM, IN A SANDBOX (cutbox-rows.mjs): the forced cells as the released guide's own fill.sh prints them over the translation 9a5269064d58e71e… (all of the seat's roots in one cut). By AI agents, Wed Nov 11 2026. No macro, syntax, notation, axiom, sorry.
-/
import Derived.Test.YtfmoagdhajfngaaDoorChecked
import GoSem.Claim
import GoSem.ClaimJoined
import GoSem.ClaimMapViews
import Derived.JoinedTies
import Derived.KernelRfl
namespace Go.Proofs.YtfmoagdhajfngaaDoor
/- THE CELL 'sum', in the pinned program and in every row, IS THE sha256 OF THE DUMP (.gsa) THAT YtfmoagdhajfngaaDoorProg.lean LOADS. Nothing in Lean hashes anything: it is a label: what it is worth is what the hold of that sum in a sandbox is worth. -/
noncomputable def Tryd.pinned : Pinned := { name := "ytfmoagdhajfngaadoor", sum := "9a5269064d58e71e179e6f9ff461e163a0d89c625d767fc9d7902fb0c899cbe0", checked := Tryd.checked }
namespace Rows
def none {H : Type} : Left H := { results := [], args := [] }

/- WHAT THE LISTED PACKAGE-LEVEL VARIABLES READ AS WHEN THE CALL BEGINS. Each datum BY PROGRAM (the guide's laid-datum.mjs) off the statement by which the dump's own 'gosem.cut.vars' lays the variable. In a bare row this is a premise. The card (YtfmoagdhajfngaaDoorCards.lean) ties it to the program's text. -/
def laid_cassone_state_behind {H : Type} : DataW H := .agg [.agg [.lit (.int .i64 0), .lit (.int .i64 0)], .agg [.lit (.int .i64 0), .lit (.int .i64 0)], .agg [.lit (.int .i64 7), .lit (.int .i64 10)], .agg [.lit (.int .i64 8), .lit (.int .i64 11)], .agg [.lit (.int .i64 9), .lit (.int .i64 11)]]

/-- 'cassonelaw09.StateNext': WHATEVER THE INPUT: true; the input reads as it did. -/
def stateNextSpec : ChangeSpec := { name := "stateNext", fn := fun _ => fun
  | [d1, d2] => { results := [.lit (.bool true)], args := [d1, d2] }
  | _ => none }
def stateNextRow : OpenClaim := { program := "ytfmoagdhajfngaadoor", sum := "9a5269064d58e71e179e6f9ff461e163a0d89c625d767fc9d7902fb0c899cbe0", func := "cassone/cassonelaw09.StateNext", spec := "stateNext", named := ["cassone/state.behind"], apart := false, laid := [("cassone/state.behind", laid_cassone_state_behind)] }
def StateNextSaid : Prop := stateNextRow.holds Tryd.pinned (OpenSpec.ofChange stateNextSpec)

/-- ITS FALSE NEIGHBOUR: 'it returns false'. Refute it at one input. -/
def stateNextWrong : ChangeSpec := { name := "stateNext", fn := fun _ => fun
  | [d1, d2] => { results := [.lit (.bool false)], args := [d1, d2] }
  | _ => none }
def StateNextWrongFalsely : Prop := stateNextRow.holds Tryd.pinned (OpenSpec.ofChange stateNextWrong)

/-- 'cassonelaw09.StateSlots': WHATEVER THE INPUT: true; the input reads as it did. -/
def stateSlotsSpec : ChangeSpec := { name := "stateSlots", fn := fun _ => fun
  | [d1, d2, d3] => { results := [.lit (.bool true)], args := [d1, d2, d3] }
  | _ => none }
def stateSlotsRow : OpenClaim := { program := "ytfmoagdhajfngaadoor", sum := "9a5269064d58e71e179e6f9ff461e163a0d89c625d767fc9d7902fb0c899cbe0", func := "cassone/cassonelaw09.StateSlots", spec := "stateSlots", named := ["cassone/state.behind"], apart := false, laid := [("cassone/state.behind", laid_cassone_state_behind)] }
def StateSlotsSaid : Prop := stateSlotsRow.holds Tryd.pinned (OpenSpec.ofChange stateSlotsSpec)

/-- ITS FALSE NEIGHBOUR: 'it returns false'. Refute it at one input. -/
def stateSlotsWrong : ChangeSpec := { name := "stateSlots", fn := fun _ => fun
  | [d1, d2, d3] => { results := [.lit (.bool false)], args := [d1, d2, d3] }
  | _ => none }
def StateSlotsWrongFalsely : Prop := stateSlotsRow.holds Tryd.pinned (OpenSpec.ofChange stateSlotsWrong)

/- THE SECOND FORM. 'bulk': how many values and letters a reading holds, each counted each time it is reached (what is shared counts as often as it is met; a slice's spare places count too). A statement '..UptoSaid' is the law's where the arguments, and the package variables that the reading takes, are together of bulk at most 1048576: NARROWER than '..Said'. Prove '..Said' where nothing that the law and all that it calls make is longer than what came in: it says more and counts as full. Else prove '..UptoSaid'. A law counts once. -/
mutual
def uptoBulk {H : Type} : DataW H → Nat
  | .lit (.string bytes) => bytes.length + 1
  | .lit _ => 1
  | .nil => 1
  | .ptr d => uptoBulk d + 1
  | .slice elems spare => uptoBulkAll elems + uptoBulkAll spare + 1
  | .agg parts => uptoBulkAll parts + 1
  | .iface _ d => uptoBulk d + 1
  | .map entries => uptoBulkEntries entries + 1
  | .held _ => 1
def uptoBulkAll {H : Type} : List (DataW H) → Nat
  | [] => 0
  | d :: r => uptoBulk d + uptoBulkAll r
def uptoBulkEntries {H : Type} : List (Lit × DataW H) → Nat
  | [] => 0
  | x :: r => uptoBulkEntry x + uptoBulkEntries r
def uptoBulkEntry {H : Type} : Lit × DataW H → Nat
  | (.string bytes, d) => bytes.length + uptoBulk d + 1
  | (_, d) => uptoBulk d + 1
 end
def uptoSmall : (H : Type) → List (DataW H) → Bool := fun _ ds => decide (uptoBulkAll ds ≤ 1048576)
def OpenSpec.upto (s : _root_.Go.ChangeSpec) : _root_.Go.OpenSpec := { _root_.Go.OpenSpec.ofChange s with cond := some uptoSmall }

/-- 'cassonelaw09.StateNext', WHERE WHAT IT READS IS OF BULK AT MOST 1048576: true; the input reads as it did. -/
def stateNextUptoRow : OpenClaim := { program := "ytfmoagdhajfngaadoor", sum := "9a5269064d58e71e179e6f9ff461e163a0d89c625d767fc9d7902fb0c899cbe0", func := "cassone/cassonelaw09.StateNext", spec := "stateNext", named := ["cassone/state.behind"], apart := false, laid := [("cassone/state.behind", laid_cassone_state_behind)], narrowed := true }
def StateNextUptoSaid : Prop := stateNextUptoRow.holds Tryd.pinned (OpenSpec.upto stateNextSpec)

/-- 'cassonelaw09.StateSlots', WHERE WHAT IT READS IS OF BULK AT MOST 1048576: true; the input reads as it did. -/
def stateSlotsUptoRow : OpenClaim := { program := "ytfmoagdhajfngaadoor", sum := "9a5269064d58e71e179e6f9ff461e163a0d89c625d767fc9d7902fb0c899cbe0", func := "cassone/cassonelaw09.StateSlots", spec := "stateSlots", named := ["cassone/state.behind"], apart := false, laid := [("cassone/state.behind", laid_cassone_state_behind)], narrowed := true }
def StateSlotsUptoSaid : Prop := stateSlotsUptoRow.holds Tryd.pinned (OpenSpec.upto stateSlotsSpec)

end Rows
end Go.Proofs.YtfmoagdhajfngaaDoor
