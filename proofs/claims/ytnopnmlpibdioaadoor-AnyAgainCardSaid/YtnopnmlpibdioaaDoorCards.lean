/-
  DERIVED. GIVEN WITH THE SEED: THE CARDS: each row of YtnopnmlpibdioaaDoorRows.lean that lists a variable, with what it lists TIED to the program's text (the seventh form; the later family's looks); each row that meets fmt, with fmt's text TOLD by the authors' own Lean function (tested against real Go, not proved from fmt's source: count such statements apart). THE CARD IS WHAT COUNTS. Prove the row's statement (the work); the ties are given (YtnopnmlpibdioaaDoorTie.lean); close each card by the builder's one call (the guide's Derived/Test/ToyasCard.lean, 'card_holds'). Laid BY PROGRAM, IN A SANDBOX (cutbox-door.mjs). By AI agents, Wed Nov 11 2026. No macro, syntax, notation, axiom, sorry.
-/
import Derived.Test.YtnopnmlpibdioaaDoorRows
import GoSem.ClaimSeven
namespace Go.Proofs.YtnopnmlpibdioaaDoor
namespace Rows

/-- THE TIED CARD OF 'bordereaulaw22.AnyNumbers'. -/
def anyNumbersCard : Claim7 := { stood := { row := anyNumbersRow, standIns := [], harness := (true, "ff7c8359a4c2abd9657b37efeac25e3e446e54359560880eb35b0f5d9a593681"), looks := true }, kinds := [], alts := [], laidByText := true, laidKinds := [.data, .data, .data], laidTests := true, laidLooks := .later }
def AnyNumbersCardSaid : Prop := Claim7.holds Tryd.pinned (.plain (OpenSpec.ofChange anyNumbersSpec)) anyNumbersCard

/-- THE TIED CARD OF 'bordereaulaw22.AnyTells'. -/
def anyTellsCard : Claim7 := { stood := { row := anyTellsRow, standIns := [], harness := (true, "ff7c8359a4c2abd9657b37efeac25e3e446e54359560880eb35b0f5d9a593681"), looks := true }, kinds := [], alts := [], laidByText := true, laidKinds := [.data, .data, .data], laidTests := true, laidLooks := .later }
def AnyTellsCardSaid : Prop := Claim7.holds Tryd.pinned (.plain (OpenSpec.ofChange anyTellsSpec)) anyTellsCard

/-- THE TIED CARD OF 'bordereaulaw22.AnyParts'. -/
def anyPartsCard : Claim7 := { stood := { row := anyPartsRow, standIns := [], harness := (true, "ff7c8359a4c2abd9657b37efeac25e3e446e54359560880eb35b0f5d9a593681"), looks := true }, kinds := [], alts := [], laidByText := true, laidKinds := [.data, .data, .data], laidTests := true, laidLooks := .later }
def AnyPartsCardSaid : Prop := Claim7.holds Tryd.pinned (.plain (OpenSpec.ofChange anyPartsSpec)) anyPartsCard

/-- THE TIED CARD OF 'bordereaulaw22.AnyAgain'. -/
def anyAgainCard : Claim7 := { stood := { row := anyAgainRow, standIns := [], harness := (true, "ff7c8359a4c2abd9657b37efeac25e3e446e54359560880eb35b0f5d9a593681"), looks := true }, kinds := [], alts := [], laidByText := true, laidKinds := [.data, .data, .data], laidTests := true, laidLooks := .later }
def AnyAgainCardSaid : Prop := Claim7.holds Tryd.pinned (.plain (OpenSpec.ofChange anyAgainSpec)) anyAgainCard

/-- THE SECOND FORM's CARD OF 'bordereaulaw22.AnyNumbers'. -/
def anyNumbersUptoCard : Claim7 := { stood := { row := anyNumbersUptoRow, standIns := [], harness := (true, "ff7c8359a4c2abd9657b37efeac25e3e446e54359560880eb35b0f5d9a593681"), looks := true }, kinds := [], alts := [], laidByText := true, laidKinds := [.data, .data, .data], laidTests := true, laidLooks := .later }
def AnyNumbersUptoCardSaid : Prop := Claim7.holds Tryd.pinned (.plain (OpenSpec.upto anyNumbersSpec)) anyNumbersUptoCard

/-- THE SECOND FORM's CARD OF 'bordereaulaw22.AnyTells'. -/
def anyTellsUptoCard : Claim7 := { stood := { row := anyTellsUptoRow, standIns := [], harness := (true, "ff7c8359a4c2abd9657b37efeac25e3e446e54359560880eb35b0f5d9a593681"), looks := true }, kinds := [], alts := [], laidByText := true, laidKinds := [.data, .data, .data], laidTests := true, laidLooks := .later }
def AnyTellsUptoCardSaid : Prop := Claim7.holds Tryd.pinned (.plain (OpenSpec.upto anyTellsSpec)) anyTellsUptoCard

/-- THE SECOND FORM's CARD OF 'bordereaulaw22.AnyParts'. -/
def anyPartsUptoCard : Claim7 := { stood := { row := anyPartsUptoRow, standIns := [], harness := (true, "ff7c8359a4c2abd9657b37efeac25e3e446e54359560880eb35b0f5d9a593681"), looks := true }, kinds := [], alts := [], laidByText := true, laidKinds := [.data, .data, .data], laidTests := true, laidLooks := .later }
def AnyPartsUptoCardSaid : Prop := Claim7.holds Tryd.pinned (.plain (OpenSpec.upto anyPartsSpec)) anyPartsUptoCard

/-- THE SECOND FORM's CARD OF 'bordereaulaw22.AnyAgain'. -/
def anyAgainUptoCard : Claim7 := { stood := { row := anyAgainUptoRow, standIns := [], harness := (true, "ff7c8359a4c2abd9657b37efeac25e3e446e54359560880eb35b0f5d9a593681"), looks := true }, kinds := [], alts := [], laidByText := true, laidKinds := [.data, .data, .data], laidTests := true, laidLooks := .later }
def AnyAgainUptoCardSaid : Prop := Claim7.holds Tryd.pinned (.plain (OpenSpec.upto anyAgainSpec)) anyAgainUptoCard
end Rows
end Go.Proofs.YtnopnmlpibdioaaDoor
