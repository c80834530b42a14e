/-
  DERIVED. GIVEN WITH THE SEED: THE CARDS: each row of YtkhkmgcegicmoaaDoorRows.lean that lists a variable, with what it lists TIED to the program's text (the seventh form; the later family's looks); each row that meets fmt, with fmt's text TOLD by the authors' own Lean function (tested against real Go, not proved from fmt's source: count such statements apart). THE CARD IS WHAT COUNTS. Prove the row's statement (the work); the ties are given (YtkhkmgcegicmoaaDoorTie.lean); close each card by the builder's one call (the guide's Derived/Test/ToyasCard.lean, 'card_holds'). Laid BY PROGRAM, IN A SANDBOX (cutbox-door.mjs). By AI agents, Wed Nov 11 2026. No macro, syntax, notation, axiom, sorry.
-/
import Derived.Test.YtkhkmgcegicmoaaDoorRows
import GoSem.ClaimSeven
namespace Go.Proofs.YtkhkmgcegicmoaaDoor
namespace Rows

/-- THE TIED CARD OF 'turnoutlaw01.ValueBytes'. -/
def valueBytesCard : Claim7 := { stood := { row := valueBytesRow, standIns := [], harness := (true, "764e126c04e3df85a29b907664f7bdd7858c56c45a012816159f0e78ad711cc5"), looks := false }, kinds := [], alts := [], laidByText := true, laidKinds := [.data, .data, .pinned], laidTests := true, laidLooks := .later }
def ValueBytesCardSaid : Prop := Claim7.holds Tryd.pinned (.plain (OpenSpec.ofChange valueBytesSpec)) valueBytesCard

/-- THE TIED CARD OF 'turnoutlaw01.ValueTexts'. -/
def valueTextsCard : Claim7 := { stood := { row := valueTextsRow, standIns := [], harness := (true, "764e126c04e3df85a29b907664f7bdd7858c56c45a012816159f0e78ad711cc5"), looks := false }, kinds := [], alts := [], laidByText := true, laidKinds := [.data, .data, .pinned], laidTests := true, laidLooks := .later }
def ValueTextsCardSaid : Prop := Claim7.holds Tryd.pinned (.plain (OpenSpec.ofChange valueTextsSpec)) valueTextsCard

/-- THE TIED CARD OF 'turnoutlaw01.ValueBack'. -/
def valueBackCard : Claim7 := { stood := { row := valueBackRow, standIns := [], harness := (true, "764e126c04e3df85a29b907664f7bdd7858c56c45a012816159f0e78ad711cc5"), looks := false }, kinds := [], alts := [], laidByText := true, laidKinds := [.data, .data, .pinned], laidTests := true, laidLooks := .later }
def ValueBackCardSaid : Prop := Claim7.holds Tryd.pinned (.plain (OpenSpec.ofChange valueBackSpec)) valueBackCard

/-- THE TIED CARD OF 'turnoutlaw01.ValueCarries'. -/
def valueCarriesCard : Claim7 := { stood := { row := valueCarriesRow, standIns := [], harness := (true, "764e126c04e3df85a29b907664f7bdd7858c56c45a012816159f0e78ad711cc5"), looks := false }, kinds := [], alts := [], laidByText := true, laidKinds := [.data, .data, .pinned], laidTests := true, laidLooks := .later }
def ValueCarriesCardSaid : Prop := Claim7.holds Tryd.pinned (.plain (OpenSpec.ofChange valueCarriesSpec)) valueCarriesCard

/-- THE TIED CARD OF 'turnoutlaw01.ValueOrder'. -/
def valueOrderCard : Claim7 := { stood := { row := valueOrderRow, standIns := [], harness := (true, "764e126c04e3df85a29b907664f7bdd7858c56c45a012816159f0e78ad711cc5"), looks := false }, kinds := [], alts := [], laidByText := true, laidKinds := [.data, .data, .pinned], laidTests := true, laidLooks := .later }
def ValueOrderCardSaid : Prop := Claim7.holds Tryd.pinned (.plain (OpenSpec.ofChange valueOrderSpec)) valueOrderCard

/-- THE TIED CARD OF 'turnoutlaw01.ValueBits'. -/
def valueBitsCard : Claim7 := { stood := { row := valueBitsRow, standIns := [], harness := (true, "764e126c04e3df85a29b907664f7bdd7858c56c45a012816159f0e78ad711cc5"), looks := false }, kinds := [], alts := [], laidByText := true, laidKinds := [.data, .data, .pinned], laidTests := true, laidLooks := .later }
def ValueBitsCardSaid : Prop := Claim7.holds Tryd.pinned (.plain (OpenSpec.ofChange valueBitsSpec)) valueBitsCard

/-- THE SECOND FORM's CARD OF 'turnoutlaw01.ValueBytes'. -/
def valueBytesUptoCard : Claim7 := { stood := { row := valueBytesUptoRow, standIns := [], harness := (true, "764e126c04e3df85a29b907664f7bdd7858c56c45a012816159f0e78ad711cc5"), looks := false }, kinds := [], alts := [], laidByText := true, laidKinds := [.data, .data, .pinned], laidTests := true, laidLooks := .later }
def ValueBytesUptoCardSaid : Prop := Claim7.holds Tryd.pinned (.plain (OpenSpec.upto valueBytesSpec)) valueBytesUptoCard

/-- THE SECOND FORM's CARD OF 'turnoutlaw01.ValueTexts'. -/
def valueTextsUptoCard : Claim7 := { stood := { row := valueTextsUptoRow, standIns := [], harness := (true, "764e126c04e3df85a29b907664f7bdd7858c56c45a012816159f0e78ad711cc5"), looks := false }, kinds := [], alts := [], laidByText := true, laidKinds := [.data, .data, .pinned], laidTests := true, laidLooks := .later }
def ValueTextsUptoCardSaid : Prop := Claim7.holds Tryd.pinned (.plain (OpenSpec.upto valueTextsSpec)) valueTextsUptoCard

/-- THE SECOND FORM's CARD OF 'turnoutlaw01.ValueBack'. -/
def valueBackUptoCard : Claim7 := { stood := { row := valueBackUptoRow, standIns := [], harness := (true, "764e126c04e3df85a29b907664f7bdd7858c56c45a012816159f0e78ad711cc5"), looks := false }, kinds := [], alts := [], laidByText := true, laidKinds := [.data, .data, .pinned], laidTests := true, laidLooks := .later }
def ValueBackUptoCardSaid : Prop := Claim7.holds Tryd.pinned (.plain (OpenSpec.upto valueBackSpec)) valueBackUptoCard

/-- THE SECOND FORM's CARD OF 'turnoutlaw01.ValueCarries'. -/
def valueCarriesUptoCard : Claim7 := { stood := { row := valueCarriesUptoRow, standIns := [], harness := (true, "764e126c04e3df85a29b907664f7bdd7858c56c45a012816159f0e78ad711cc5"), looks := false }, kinds := [], alts := [], laidByText := true, laidKinds := [.data, .data, .pinned], laidTests := true, laidLooks := .later }
def ValueCarriesUptoCardSaid : Prop := Claim7.holds Tryd.pinned (.plain (OpenSpec.upto valueCarriesSpec)) valueCarriesUptoCard

/-- THE SECOND FORM's CARD OF 'turnoutlaw01.ValueOrder'. -/
def valueOrderUptoCard : Claim7 := { stood := { row := valueOrderUptoRow, standIns := [], harness := (true, "764e126c04e3df85a29b907664f7bdd7858c56c45a012816159f0e78ad711cc5"), looks := false }, kinds := [], alts := [], laidByText := true, laidKinds := [.data, .data, .pinned], laidTests := true, laidLooks := .later }
def ValueOrderUptoCardSaid : Prop := Claim7.holds Tryd.pinned (.plain (OpenSpec.upto valueOrderSpec)) valueOrderUptoCard

/-- THE SECOND FORM's CARD OF 'turnoutlaw01.ValueBits'. -/
def valueBitsUptoCard : Claim7 := { stood := { row := valueBitsUptoRow, standIns := [], harness := (true, "764e126c04e3df85a29b907664f7bdd7858c56c45a012816159f0e78ad711cc5"), looks := false }, kinds := [], alts := [], laidByText := true, laidKinds := [.data, .data, .pinned], laidTests := true, laidLooks := .later }
def ValueBitsUptoCardSaid : Prop := Claim7.holds Tryd.pinned (.plain (OpenSpec.upto valueBitsSpec)) valueBitsUptoCard
end Rows
end Go.Proofs.YtkhkmgcegicmoaaDoor
