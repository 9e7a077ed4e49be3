/-
  DERIVED. GIVEN WITH THE SEED: THE CARDS: each row of YtmcenocmilhekaaDoorRows.lean that lists a variable, with what it lists TIED to the program's text (the seventh form; the later family's looks); each row that meets fmt, with fmt's text TOLD by the authors' own Lean function (tested against real Go, not proved from fmt's source: count such statements apart). THE CARD IS WHAT COUNTS. Prove the row's statement (the work); the ties are given (YtmcenocmilhekaaDoorTie.lean); close each card by the builder's one call (the guide's Derived/Test/ToyasCard.lean, 'card_holds'). Laid BY PROGRAM, IN A SANDBOX (cutbox-door.mjs). By AI agents, Wed Nov 11 2026. No macro, syntax, notation, axiom, sorry.
-/
import Derived.Test.YtmcenocmilhekaaDoorRows
import GoSem.ClaimSeven
namespace Go.Proofs.YtmcenocmilhekaaDoor
namespace Rows

/-- THE TIED CARD OF 'cassonelaw23.ShaSums'. -/
def shaSumsCard : Claim7 := { stood := { row := shaSumsRow, standIns := [], harness := (true, "b5d73880bab97644d8edbc4a6d4687785d66bb0573f285b6945e6c2c293c8f9d"), looks := false }, kinds := [], alts := [], laidByText := true, laidKinds := [.data, .data], laidTests := true, laidLooks := .later }
def ShaSumsCardSaid : Prop := Claim7.holds Tryd.pinned (.plain (OpenSpec.ofChange shaSumsSpec)) shaSumsCard

/-- THE TIED CARD OF 'cassonelaw24.HmacSums'. -/
def hmacSumsCard : Claim7 := { stood := { row := hmacSumsRow, standIns := [], harness := (true, "b5d73880bab97644d8edbc4a6d4687785d66bb0573f285b6945e6c2c293c8f9d"), looks := false }, kinds := [], alts := [], laidByText := true, laidKinds := [.data, .data], laidTests := true, laidLooks := .later }
def HmacSumsCardSaid : Prop := Claim7.holds Tryd.pinned (.plain (OpenSpec.ofChange hmacSumsSpec)) hmacSumsCard

/-- THE TIED CARD OF 'cassonelaw26.KeysDerive'. -/
def keysDeriveCard : Claim7 := { stood := { row := keysDeriveRow, standIns := [], harness := (true, "b5d73880bab97644d8edbc4a6d4687785d66bb0573f285b6945e6c2c293c8f9d"), looks := false }, kinds := [], alts := [], laidByText := true, laidKinds := [.data, .data], laidTests := true, laidLooks := .later }
def KeysDeriveCardSaid : Prop := Claim7.holds Tryd.pinned (.plain (OpenSpec.ofChange keysDeriveSpec)) keysDeriveCard

/-- THE TIED CARD OF 'cassonelaw26.KeysRounds'. -/
def keysRoundsCard : Claim7 := { stood := { row := keysRoundsRow, standIns := [], harness := (true, "b5d73880bab97644d8edbc4a6d4687785d66bb0573f285b6945e6c2c293c8f9d"), looks := false }, kinds := [], alts := [], laidByText := true, laidKinds := [.data, .data], laidTests := true, laidLooks := .later }
def KeysRoundsCardSaid : Prop := Claim7.holds Tryd.pinned (.plain (OpenSpec.ofChange keysRoundsSpec)) keysRoundsCard

/-- THE SECOND FORM's CARD OF 'cassonelaw23.ShaSums'. -/
def shaSumsUptoCard : Claim7 := { stood := { row := shaSumsUptoRow, standIns := [], harness := (true, "b5d73880bab97644d8edbc4a6d4687785d66bb0573f285b6945e6c2c293c8f9d"), looks := false }, kinds := [], alts := [], laidByText := true, laidKinds := [.data, .data], laidTests := true, laidLooks := .later }
def ShaSumsUptoCardSaid : Prop := Claim7.holds Tryd.pinned (.plain (OpenSpec.upto shaSumsSpec)) shaSumsUptoCard

/-- THE SECOND FORM's CARD OF 'cassonelaw24.HmacSums'. -/
def hmacSumsUptoCard : Claim7 := { stood := { row := hmacSumsUptoRow, standIns := [], harness := (true, "b5d73880bab97644d8edbc4a6d4687785d66bb0573f285b6945e6c2c293c8f9d"), looks := false }, kinds := [], alts := [], laidByText := true, laidKinds := [.data, .data], laidTests := true, laidLooks := .later }
def HmacSumsUptoCardSaid : Prop := Claim7.holds Tryd.pinned (.plain (OpenSpec.upto hmacSumsSpec)) hmacSumsUptoCard

/-- THE SECOND FORM's CARD OF 'cassonelaw26.KeysDerive'. -/
def keysDeriveUptoCard : Claim7 := { stood := { row := keysDeriveUptoRow, standIns := [], harness := (true, "b5d73880bab97644d8edbc4a6d4687785d66bb0573f285b6945e6c2c293c8f9d"), looks := false }, kinds := [], alts := [], laidByText := true, laidKinds := [.data, .data], laidTests := true, laidLooks := .later }
def KeysDeriveUptoCardSaid : Prop := Claim7.holds Tryd.pinned (.plain (OpenSpec.upto keysDeriveSpec)) keysDeriveUptoCard

/-- THE SECOND FORM's CARD OF 'cassonelaw26.KeysRounds'. -/
def keysRoundsUptoCard : Claim7 := { stood := { row := keysRoundsUptoRow, standIns := [], harness := (true, "b5d73880bab97644d8edbc4a6d4687785d66bb0573f285b6945e6c2c293c8f9d"), looks := false }, kinds := [], alts := [], laidByText := true, laidKinds := [.data, .data], laidTests := true, laidLooks := .later }
def KeysRoundsUptoCardSaid : Prop := Claim7.holds Tryd.pinned (.plain (OpenSpec.upto keysRoundsSpec)) keysRoundsUptoCard
end Rows
end Go.Proofs.YtmcenocmilhekaaDoor
