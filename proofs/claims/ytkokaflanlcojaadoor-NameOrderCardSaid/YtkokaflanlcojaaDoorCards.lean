/-
  DERIVED. GIVEN WITH THE SEED: THE CARDS: each row of YtkokaflanlcojaaDoorRows.lean that lists a variable, with what it lists TIED to the program's text (the seventh form; the later family's looks); each row that meets fmt, with fmt's text TOLD by the authors' own Lean function (tested against real Go, not proved from fmt's source: count such statements apart). THE CARD IS WHAT COUNTS. Prove the row's statement (the work); the ties are given (YtkokaflanlcojaaDoorTie.lean); close each card by the builder's one call (the guide's Derived/Test/ToyasCard.lean, 'card_holds'). Laid BY PROGRAM, IN A SANDBOX (cutbox-door.mjs). By AI agents, Wed Nov 11 2026. No macro, syntax, notation, axiom, sorry.
-/
import Derived.Test.YtkokaflanlcojaaDoorRows
import GoSem.ClaimSeven
namespace Go.Proofs.YtkokaflanlcojaaDoor
namespace Rows

/-- THE TIED CARD OF 'bordereaulaw21.TellNumbers'. -/
def tellNumbersCard : Claim7 := { stood := { row := tellNumbersRow, standIns := [], harness := (true, "0beed3593f07667a24e6107651db375102d985c6b33aa93fe85248a6d17d14a8"), looks := true }, kinds := [], alts := [], laidByText := true, laidKinds := [.data, .data, .data], laidTests := true, laidLooks := .later }
def TellNumbersCardSaid : Prop := Claim7.holds Tryd.pinned (.plain (OpenSpec.ofChange tellNumbersSpec)) tellNumbersCard

/-- THE TIED CARD OF 'bordereaulaw21.TellBack'. -/
def tellBackCard : Claim7 := { stood := { row := tellBackRow, standIns := [], harness := (true, "0beed3593f07667a24e6107651db375102d985c6b33aa93fe85248a6d17d14a8"), looks := true }, kinds := [], alts := [], laidByText := true, laidKinds := [.data, .data, .data], laidTests := true, laidLooks := .later }
def TellBackCardSaid : Prop := Claim7.holds Tryd.pinned (.plain (OpenSpec.ofChange tellBackSpec)) tellBackCard

/-- THE TIED CARD OF 'bordereaulaw21.TellApart'. -/
def tellApartCard : Claim7 := { stood := { row := tellApartRow, standIns := [], harness := (true, "0beed3593f07667a24e6107651db375102d985c6b33aa93fe85248a6d17d14a8"), looks := true }, kinds := [], alts := [], laidByText := true, laidKinds := [.data, .data, .data], laidTests := true, laidLooks := .later }
def TellApartCardSaid : Prop := Claim7.holds Tryd.pinned (.plain (OpenSpec.ofChange tellApartSpec)) tellApartCard

/-- THE TIED CARD OF 'bordereaulaw3.NameNumbers'. -/
def nameNumbersCard : Claim7 := { stood := { row := nameNumbersRow, standIns := [], harness := (true, "0beed3593f07667a24e6107651db375102d985c6b33aa93fe85248a6d17d14a8"), looks := true }, kinds := [], alts := [], laidByText := true, laidKinds := [.data, .data, .data, .sentinel, .sentinel], laidTests := true, laidLooks := .later }
def NameNumbersCardSaid : Prop := Claim7.holds Tryd.pinned (.plain (OpenSpec.ofChange nameNumbersSpec)) nameNumbersCard

/-- THE TIED CARD OF 'bordereaulaw3.NameTells'. -/
def nameTellsCard : Claim7 := { stood := { row := nameTellsRow, standIns := [], harness := (true, "0beed3593f07667a24e6107651db375102d985c6b33aa93fe85248a6d17d14a8"), looks := true }, kinds := [], alts := [], laidByText := true, laidKinds := [.data, .data, .data, .sentinel, .sentinel], laidTests := true, laidLooks := .later }
def NameTellsCardSaid : Prop := Claim7.holds Tryd.pinned (.plain (OpenSpec.ofChange nameTellsSpec)) nameTellsCard

/-- THE TIED CARD OF 'bordereaulaw3.NameBack'. -/
def nameBackCard : Claim7 := { stood := { row := nameBackRow, standIns := [], harness := (true, "0beed3593f07667a24e6107651db375102d985c6b33aa93fe85248a6d17d14a8"), looks := true }, kinds := [], alts := [], laidByText := true, laidKinds := [.data, .data, .data, .sentinel, .sentinel], laidTests := true, laidLooks := .later }
def NameBackCardSaid : Prop := Claim7.holds Tryd.pinned (.plain (OpenSpec.ofChange nameBackSpec)) nameBackCard

/-- THE TIED CARD OF 'bordereaulaw3.NameOrder'. -/
def nameOrderCard : Claim7 := { stood := { row := nameOrderRow, standIns := [], harness := (true, "0beed3593f07667a24e6107651db375102d985c6b33aa93fe85248a6d17d14a8"), looks := true }, kinds := [], alts := [], laidByText := true, laidKinds := [.data, .data, .data, .sentinel, .sentinel], laidTests := true, laidLooks := .later }
def NameOrderCardSaid : Prop := Claim7.holds Tryd.pinned (.plain (OpenSpec.ofChange nameOrderSpec)) nameOrderCard

/-- THE TIED CARD OF 'bordereaulaw3.NameRunes'. -/
def nameRunesCard : Claim7 := { stood := { row := nameRunesRow, standIns := [], harness := (true, "0beed3593f07667a24e6107651db375102d985c6b33aa93fe85248a6d17d14a8"), looks := true }, kinds := [], alts := [], laidByText := true, laidKinds := [.data, .data, .data, .sentinel, .sentinel], laidTests := true, laidLooks := .later }
def NameRunesCardSaid : Prop := Claim7.holds Tryd.pinned (.plain (OpenSpec.ofChange nameRunesSpec)) nameRunesCard

/-- THE SECOND FORM's CARD OF 'bordereaulaw21.TellNumbers'. -/
def tellNumbersUptoCard : Claim7 := { stood := { row := tellNumbersUptoRow, standIns := [], harness := (true, "0beed3593f07667a24e6107651db375102d985c6b33aa93fe85248a6d17d14a8"), looks := true }, kinds := [], alts := [], laidByText := true, laidKinds := [.data, .data, .data], laidTests := true, laidLooks := .later }
def TellNumbersUptoCardSaid : Prop := Claim7.holds Tryd.pinned (.plain (OpenSpec.upto tellNumbersSpec)) tellNumbersUptoCard

/-- THE SECOND FORM's CARD OF 'bordereaulaw21.TellBack'. -/
def tellBackUptoCard : Claim7 := { stood := { row := tellBackUptoRow, standIns := [], harness := (true, "0beed3593f07667a24e6107651db375102d985c6b33aa93fe85248a6d17d14a8"), looks := true }, kinds := [], alts := [], laidByText := true, laidKinds := [.data, .data, .data], laidTests := true, laidLooks := .later }
def TellBackUptoCardSaid : Prop := Claim7.holds Tryd.pinned (.plain (OpenSpec.upto tellBackSpec)) tellBackUptoCard

/-- THE SECOND FORM's CARD OF 'bordereaulaw21.TellApart'. -/
def tellApartUptoCard : Claim7 := { stood := { row := tellApartUptoRow, standIns := [], harness := (true, "0beed3593f07667a24e6107651db375102d985c6b33aa93fe85248a6d17d14a8"), looks := true }, kinds := [], alts := [], laidByText := true, laidKinds := [.data, .data, .data], laidTests := true, laidLooks := .later }
def TellApartUptoCardSaid : Prop := Claim7.holds Tryd.pinned (.plain (OpenSpec.upto tellApartSpec)) tellApartUptoCard

/-- THE SECOND FORM's CARD OF 'bordereaulaw3.NameNumbers'. -/
def nameNumbersUptoCard : Claim7 := { stood := { row := nameNumbersUptoRow, standIns := [], harness := (true, "0beed3593f07667a24e6107651db375102d985c6b33aa93fe85248a6d17d14a8"), looks := true }, kinds := [], alts := [], laidByText := true, laidKinds := [.data, .data, .data, .sentinel, .sentinel], laidTests := true, laidLooks := .later }
def NameNumbersUptoCardSaid : Prop := Claim7.holds Tryd.pinned (.plain (OpenSpec.upto nameNumbersSpec)) nameNumbersUptoCard

/-- THE SECOND FORM's CARD OF 'bordereaulaw3.NameTells'. -/
def nameTellsUptoCard : Claim7 := { stood := { row := nameTellsUptoRow, standIns := [], harness := (true, "0beed3593f07667a24e6107651db375102d985c6b33aa93fe85248a6d17d14a8"), looks := true }, kinds := [], alts := [], laidByText := true, laidKinds := [.data, .data, .data, .sentinel, .sentinel], laidTests := true, laidLooks := .later }
def NameTellsUptoCardSaid : Prop := Claim7.holds Tryd.pinned (.plain (OpenSpec.upto nameTellsSpec)) nameTellsUptoCard

/-- THE SECOND FORM's CARD OF 'bordereaulaw3.NameBack'. -/
def nameBackUptoCard : Claim7 := { stood := { row := nameBackUptoRow, standIns := [], harness := (true, "0beed3593f07667a24e6107651db375102d985c6b33aa93fe85248a6d17d14a8"), looks := true }, kinds := [], alts := [], laidByText := true, laidKinds := [.data, .data, .data, .sentinel, .sentinel], laidTests := true, laidLooks := .later }
def NameBackUptoCardSaid : Prop := Claim7.holds Tryd.pinned (.plain (OpenSpec.upto nameBackSpec)) nameBackUptoCard

/-- THE SECOND FORM's CARD OF 'bordereaulaw3.NameOrder'. -/
def nameOrderUptoCard : Claim7 := { stood := { row := nameOrderUptoRow, standIns := [], harness := (true, "0beed3593f07667a24e6107651db375102d985c6b33aa93fe85248a6d17d14a8"), looks := true }, kinds := [], alts := [], laidByText := true, laidKinds := [.data, .data, .data, .sentinel, .sentinel], laidTests := true, laidLooks := .later }
def NameOrderUptoCardSaid : Prop := Claim7.holds Tryd.pinned (.plain (OpenSpec.upto nameOrderSpec)) nameOrderUptoCard

/-- THE SECOND FORM's CARD OF 'bordereaulaw3.NameRunes'. -/
def nameRunesUptoCard : Claim7 := { stood := { row := nameRunesUptoRow, standIns := [], harness := (true, "0beed3593f07667a24e6107651db375102d985c6b33aa93fe85248a6d17d14a8"), looks := true }, kinds := [], alts := [], laidByText := true, laidKinds := [.data, .data, .data, .sentinel, .sentinel], laidTests := true, laidLooks := .later }
def NameRunesUptoCardSaid : Prop := Claim7.holds Tryd.pinned (.plain (OpenSpec.upto nameRunesSpec)) nameRunesUptoCard
end Rows
end Go.Proofs.YtkokaflanlcojaaDoor
