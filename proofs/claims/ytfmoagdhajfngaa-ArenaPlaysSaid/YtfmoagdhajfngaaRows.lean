/-
  No cell of these rows narrows 'for every input' (looked for: loops, veiled, ifaces, maps, wideKeys, modest, calm, conditions, laid).
  DERIVED. THE GIVEN ROWS OF THIS SEAT. 6 by the template 'for every input the law returns true; each argument reads behind the call as it read before'; 0 by the template 'total and deterministic' (their statements: YtfmoagdhajfngaaTotals.lean).
  GIVEN WITH THE SEED: the statements are not yours to turn. If you find one false, say at which input.
  Laid BY PROGRAM, IN A SANDBOX (cutbox-rows.mjs): the forced cells as the released guide's own fill.sh prints them over the translation 731a58b9f0a09792… (all of the seat's roots in one cut). By AI agents, Wed Nov 11 2026. No macro, syntax, notation, axiom, sorry.
-/
import Derived.Test.YtfmoagdhajfngaaChecked
import GoSem.Claim
import GoSem.ClaimJoined
import GoSem.ClaimMapViews
import Derived.JoinedTies
import Derived.KernelRfl
namespace Go.Proofs.Ytfmoagdhajfngaa
/- THE CELL 'sum', in the pinned program and in every row, IS THE sha256 OF THE DUMP (.gsa) THAT YtfmoagdhajfngaaProg.lean LOADS. Nothing in Lean hashes anything: it is a label: what it is worth is what the hold of that sum in a sandbox is worth. -/
noncomputable def Try.pinned : Pinned := { name := "ytfmoagdhajfngaa", sum := "731a58b9f0a09792d6fddd21d79304ed23e997f94dc6d38cd93665dd553409ce", checked := Try.checked }
namespace Rows
def none {H : Type} : Left H := { results := [], args := [] }

/-- 'cassonelaw01.CrcSums': WHATEVER THE INPUT: true; the input reads as it did. -/
def crcSumsSpec : ChangeSpec := { name := "crcSums", fn := fun _ => fun
  | [d1, d2] => { results := [.lit (.bool true)], args := [d1, d2] }
  | _ => none }
def crcSumsRow : OpenClaim := { program := "ytfmoagdhajfngaa", sum := "731a58b9f0a09792d6fddd21d79304ed23e997f94dc6d38cd93665dd553409ce", func := "cassone/cassonelaw01.CrcSums", spec := "crcSums", apart := false }
def CrcSumsSaid : Prop := crcSumsRow.holds Try.pinned (OpenSpec.ofChange crcSumsSpec)

/-- ITS FALSE NEIGHBOUR: 'it returns false'. Refute it at one input. -/
def crcSumsWrong : ChangeSpec := { name := "crcSums", fn := fun _ => fun
  | [d1, d2] => { results := [.lit (.bool false)], args := [d1, d2] }
  | _ => none }
def CrcSumsWrongFalsely : Prop := crcSumsRow.holds Try.pinned (OpenSpec.ofChange crcSumsWrong)

/-- 'cassonelaw01.CrcBursts': WHATEVER THE INPUT: true; the input reads as it did. -/
def crcBurstsSpec : ChangeSpec := { name := "crcBursts", fn := fun _ => fun
  | [d1, d2, d3] => { results := [.lit (.bool true)], args := [d1, d2, d3] }
  | _ => none }
def crcBurstsRow : OpenClaim := { program := "ytfmoagdhajfngaa", sum := "731a58b9f0a09792d6fddd21d79304ed23e997f94dc6d38cd93665dd553409ce", func := "cassone/cassonelaw01.CrcBursts", spec := "crcBursts", apart := false }
def CrcBurstsSaid : Prop := crcBurstsRow.holds Try.pinned (OpenSpec.ofChange crcBurstsSpec)

/-- ITS FALSE NEIGHBOUR: 'it returns false'. Refute it at one input. -/
def crcBurstsWrong : ChangeSpec := { name := "crcBursts", fn := fun _ => fun
  | [d1, d2, d3] => { results := [.lit (.bool false)], args := [d1, d2, d3] }
  | _ => none }
def CrcBurstsWrongFalsely : Prop := crcBurstsRow.holds Try.pinned (OpenSpec.ofChange crcBurstsWrong)

/-- 'cassonelaw02.WindowTurns': WHATEVER THE INPUT: true; the input reads as it did. -/
def windowTurnsSpec : ChangeSpec := { name := "windowTurns", fn := fun _ => fun
  | [d1, d2, d3] => { results := [.lit (.bool true)], args := [d1, d2, d3] }
  | _ => none }
def windowTurnsRow : OpenClaim := { program := "ytfmoagdhajfngaa", sum := "731a58b9f0a09792d6fddd21d79304ed23e997f94dc6d38cd93665dd553409ce", func := "cassone/cassonelaw02.WindowTurns", spec := "windowTurns", apart := false }
def WindowTurnsSaid : Prop := windowTurnsRow.holds Try.pinned (OpenSpec.ofChange windowTurnsSpec)

/-- ITS FALSE NEIGHBOUR: 'it returns false'. Refute it at one input. -/
def windowTurnsWrong : ChangeSpec := { name := "windowTurns", fn := fun _ => fun
  | [d1, d2, d3] => { results := [.lit (.bool false)], args := [d1, d2, d3] }
  | _ => none }
def WindowTurnsWrongFalsely : Prop := windowTurnsRow.holds Try.pinned (OpenSpec.ofChange windowTurnsWrong)

/-- 'cassonelaw02.WindowPlays': WHATEVER THE INPUT: true; the input reads as it did. -/
def windowPlaysSpec : ChangeSpec := { name := "windowPlays", fn := fun _ => fun
  | [d1, d2] => { results := [.lit (.bool true)], args := [d1, d2] }
  | _ => none }
def windowPlaysRow : OpenClaim := { program := "ytfmoagdhajfngaa", sum := "731a58b9f0a09792d6fddd21d79304ed23e997f94dc6d38cd93665dd553409ce", func := "cassone/cassonelaw02.WindowPlays", spec := "windowPlays", apart := false }
def WindowPlaysSaid : Prop := windowPlaysRow.holds Try.pinned (OpenSpec.ofChange windowPlaysSpec)

/-- ITS FALSE NEIGHBOUR: 'it returns false'. Refute it at one input. -/
def windowPlaysWrong : ChangeSpec := { name := "windowPlays", fn := fun _ => fun
  | [d1, d2] => { results := [.lit (.bool false)], args := [d1, d2] }
  | _ => none }
def WindowPlaysWrongFalsely : Prop := windowPlaysRow.holds Try.pinned (OpenSpec.ofChange windowPlaysWrong)

/-- 'cassonelaw17.ArenaTypes': WHATEVER THE INPUT: true; the input reads as it did. -/
def arenaTypesSpec : ChangeSpec := { name := "arenaTypes", fn := fun _ => fun
  | [d] => { results := [.lit (.bool true)], args := [d] }
  | _ => none }
def arenaTypesRow : OpenClaim := { program := "ytfmoagdhajfngaa", sum := "731a58b9f0a09792d6fddd21d79304ed23e997f94dc6d38cd93665dd553409ce", func := "cassone/cassonelaw17.ArenaTypes", spec := "arenaTypes", apart := false }
def ArenaTypesSaid : Prop := arenaTypesRow.holds Try.pinned (OpenSpec.ofChange arenaTypesSpec)

/-- ITS FALSE NEIGHBOUR: 'it returns false'. Refute it at one input. -/
def arenaTypesWrong : ChangeSpec := { name := "arenaTypes", fn := fun _ => fun
  | [d] => { results := [.lit (.bool false)], args := [d] }
  | _ => none }
def ArenaTypesWrongFalsely : Prop := arenaTypesRow.holds Try.pinned (OpenSpec.ofChange arenaTypesWrong)

/-- 'cassonelaw17.ArenaPlays': WHATEVER THE INPUT: true; the input reads as it did. -/
def arenaPlaysSpec : ChangeSpec := { name := "arenaPlays", fn := fun _ => fun
  | [d1, d2] => { results := [.lit (.bool true)], args := [d1, d2] }
  | _ => none }
def arenaPlaysRow : OpenClaim := { program := "ytfmoagdhajfngaa", sum := "731a58b9f0a09792d6fddd21d79304ed23e997f94dc6d38cd93665dd553409ce", func := "cassone/cassonelaw17.ArenaPlays", spec := "arenaPlays", apart := false }
def ArenaPlaysSaid : Prop := arenaPlaysRow.holds Try.pinned (OpenSpec.ofChange arenaPlaysSpec)

/-- ITS FALSE NEIGHBOUR: 'it returns false'. Refute it at one input. -/
def arenaPlaysWrong : ChangeSpec := { name := "arenaPlays", fn := fun _ => fun
  | [d1, d2] => { results := [.lit (.bool false)], args := [d1, d2] }
  | _ => none }
def ArenaPlaysWrongFalsely : Prop := arenaPlaysRow.holds Try.pinned (OpenSpec.ofChange arenaPlaysWrong)

/- THE SECOND FORM. 'bulk': how many values and letters a reading holds, each counted each time it is reached (what is shared counts as often as it is met; a slice's spare places count too). A statement '..UptoSaid' is the law's where the arguments, and the package variables that the reading takes, are together of bulk at most 1048576: NARROWER than '..Said'. Prove '..Said' where nothing that the law and all that it calls make is longer than what came in: it says more and counts as full. Else prove '..UptoSaid'. A law counts once. -/
mutual
def uptoBulk {H : Type} : DataW H → Nat
  | .lit (.string bytes) => bytes.length + 1
  | .lit _ => 1
  | .nil => 1
  | .ptr d => uptoBulk d + 1
  | .slice elems spare => uptoBulkAll elems + uptoBulkAll spare + 1
  | .agg parts => uptoBulkAll parts + 1
  | .iface _ d => uptoBulk d + 1
  | .map entries => uptoBulkEntries entries + 1
  | .held _ => 1
def uptoBulkAll {H : Type} : List (DataW H) → Nat
  | [] => 0
  | d :: r => uptoBulk d + uptoBulkAll r
def uptoBulkEntries {H : Type} : List (Lit × DataW H) → Nat
  | [] => 0
  | x :: r => uptoBulkEntry x + uptoBulkEntries r
def uptoBulkEntry {H : Type} : Lit × DataW H → Nat
  | (.string bytes, d) => bytes.length + uptoBulk d + 1
  | (_, d) => uptoBulk d + 1
 end
def uptoSmall : (H : Type) → List (DataW H) → Bool := fun _ ds => decide (uptoBulkAll ds ≤ 1048576)
def OpenSpec.upto (s : _root_.Go.ChangeSpec) : _root_.Go.OpenSpec := { _root_.Go.OpenSpec.ofChange s with cond := some uptoSmall }

/-- 'cassonelaw01.CrcSums', WHERE WHAT IT READS IS OF BULK AT MOST 1048576: true; the input reads as it did. -/
def crcSumsUptoRow : OpenClaim := { program := "ytfmoagdhajfngaa", sum := "731a58b9f0a09792d6fddd21d79304ed23e997f94dc6d38cd93665dd553409ce", func := "cassone/cassonelaw01.CrcSums", spec := "crcSums", apart := false, narrowed := true }
def CrcSumsUptoSaid : Prop := crcSumsUptoRow.holds Try.pinned (OpenSpec.upto crcSumsSpec)

/-- 'cassonelaw01.CrcBursts', WHERE WHAT IT READS IS OF BULK AT MOST 1048576: true; the input reads as it did. -/
def crcBurstsUptoRow : OpenClaim := { program := "ytfmoagdhajfngaa", sum := "731a58b9f0a09792d6fddd21d79304ed23e997f94dc6d38cd93665dd553409ce", func := "cassone/cassonelaw01.CrcBursts", spec := "crcBursts", apart := false, narrowed := true }
def CrcBurstsUptoSaid : Prop := crcBurstsUptoRow.holds Try.pinned (OpenSpec.upto crcBurstsSpec)

/-- 'cassonelaw02.WindowTurns', WHERE WHAT IT READS IS OF BULK AT MOST 1048576: true; the input reads as it did. -/
def windowTurnsUptoRow : OpenClaim := { program := "ytfmoagdhajfngaa", sum := "731a58b9f0a09792d6fddd21d79304ed23e997f94dc6d38cd93665dd553409ce", func := "cassone/cassonelaw02.WindowTurns", spec := "windowTurns", apart := false, narrowed := true }
def WindowTurnsUptoSaid : Prop := windowTurnsUptoRow.holds Try.pinned (OpenSpec.upto windowTurnsSpec)

/-- 'cassonelaw02.WindowPlays', WHERE WHAT IT READS IS OF BULK AT MOST 1048576: true; the input reads as it did. -/
def windowPlaysUptoRow : OpenClaim := { program := "ytfmoagdhajfngaa", sum := "731a58b9f0a09792d6fddd21d79304ed23e997f94dc6d38cd93665dd553409ce", func := "cassone/cassonelaw02.WindowPlays", spec := "windowPlays", apart := false, narrowed := true }
def WindowPlaysUptoSaid : Prop := windowPlaysUptoRow.holds Try.pinned (OpenSpec.upto windowPlaysSpec)

/-- 'cassonelaw17.ArenaTypes', WHERE WHAT IT READS IS OF BULK AT MOST 1048576: true; the input reads as it did. -/
def arenaTypesUptoRow : OpenClaim := { program := "ytfmoagdhajfngaa", sum := "731a58b9f0a09792d6fddd21d79304ed23e997f94dc6d38cd93665dd553409ce", func := "cassone/cassonelaw17.ArenaTypes", spec := "arenaTypes", apart := false, narrowed := true }
def ArenaTypesUptoSaid : Prop := arenaTypesUptoRow.holds Try.pinned (OpenSpec.upto arenaTypesSpec)

/-- 'cassonelaw17.ArenaPlays', WHERE WHAT IT READS IS OF BULK AT MOST 1048576: true; the input reads as it did. -/
def arenaPlaysUptoRow : OpenClaim := { program := "ytfmoagdhajfngaa", sum := "731a58b9f0a09792d6fddd21d79304ed23e997f94dc6d38cd93665dd553409ce", func := "cassone/cassonelaw17.ArenaPlays", spec := "arenaPlays", apart := false, narrowed := true }
def ArenaPlaysUptoSaid : Prop := arenaPlaysUptoRow.holds Try.pinned (OpenSpec.upto arenaPlaysSpec)

end Rows
end Go.Proofs.Ytfmoagdhajfngaa
