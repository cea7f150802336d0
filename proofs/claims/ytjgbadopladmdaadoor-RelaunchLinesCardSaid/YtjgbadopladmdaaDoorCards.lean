/-
  DERIVED. GIVEN WITH THE SEED: THE CARDS: each row of YtjgbadopladmdaaDoorRows.lean that lists a variable, with what it lists TIED to the program's text (the seventh form; the later family's looks); each row that meets fmt, with fmt's text TOLD by the authors' own Lean function (tested against real Go, not proved from fmt's source: count such statements apart). THE CARD IS WHAT COUNTS. Prove the row's statement (the work); the ties are given (YtjgbadopladmdaaDoorTie.lean); close each card by the builder's one call (the guide's Derived/Test/ToyasCard.lean, 'card_holds'). Laid BY PROGRAM, IN A SANDBOX (cutbox-door.mjs). By AI agents, Wed Nov 11 2026. No macro, syntax, notation, axiom, sorry.
-/
import Derived.Test.YtjgbadopladmdaaDoorRows
import GoSem.ClaimSeven
namespace Go.Proofs.YtjgbadopladmdaaDoor
namespace Rows

/-- THE TIED CARD OF 'priceofficelaw09.ProductDigits'. -/
def productDigitsCard : Claim7 := { stood := { row := productDigitsRow, standIns := [], harness := (true, "57e082d706f373a9179b0100aa5b860257ccb480c5215f8016097ceefe3a6432"), looks := false }, kinds := [], alts := [], laidByText := true, laidKinds := [.data, .pinned], laidTests := true, laidLooks := .later }
def ProductDigitsCardSaid : Prop := Claim7.holds Tryd.pinned (.plain (OpenSpec.ofChange productDigitsSpec)) productDigitsCard

/-- THE TIED CARD OF 'priceofficelaw09.ProductChanges'. -/
def productChangesCard : Claim7 := { stood := { row := productChangesRow, standIns := [], harness := (true, "57e082d706f373a9179b0100aa5b860257ccb480c5215f8016097ceefe3a6432"), looks := false }, kinds := [], alts := [], laidByText := true, laidKinds := [.data, .pinned], laidTests := true, laidLooks := .later }
def ProductChangesCardSaid : Prop := Claim7.holds Tryd.pinned (.plain (OpenSpec.ofChange productChangesSpec)) productChangesCard

/-- THE TIED CARD OF 'priceofficelaw18.RelaunchRenames'. -/
def relaunchRenamesCard : Claim7 := { stood := { row := relaunchRenamesRow, standIns := [], harness := (true, "57e082d706f373a9179b0100aa5b860257ccb480c5215f8016097ceefe3a6432"), looks := false }, kinds := [], alts := [], laidByText := true, laidKinds := [.data, .pinned], laidTests := true, laidLooks := .later }
def RelaunchRenamesCardSaid : Prop := Claim7.holds Tryd.pinned (.plain (OpenSpec.ofChange relaunchRenamesSpec)) relaunchRenamesCard

/-- THE TIED CARD OF 'priceofficelaw18.RelaunchKeeps'. -/
def relaunchKeepsCard : Claim7 := { stood := { row := relaunchKeepsRow, standIns := [], harness := (true, "57e082d706f373a9179b0100aa5b860257ccb480c5215f8016097ceefe3a6432"), looks := false }, kinds := [], alts := [], laidByText := true, laidKinds := [.data, .pinned], laidTests := true, laidLooks := .later }
def RelaunchKeepsCardSaid : Prop := Claim7.holds Tryd.pinned (.plain (OpenSpec.ofChange relaunchKeepsSpec)) relaunchKeepsCard

/-- THE TIED CARD OF 'priceofficelaw09.ProductApart'. -/
def productApartCard : Claim7 := { stood := { row := productApartRow, standIns := [], harness := (true, "57e082d706f373a9179b0100aa5b860257ccb480c5215f8016097ceefe3a6432"), looks := false }, kinds := [], alts := [], laidByText := true, laidKinds := [.data, .pinned], laidTests := true, laidLooks := .later }
def ProductApartCardSaid : Prop := Claim7.holds Tryd.pinned (.plain (OpenSpec.ofChange productApartSpec)) productApartCard

/-- THE TIED CARD OF 'priceofficelaw09.ProductNormal'. -/
def productNormalCard : Claim7 := { stood := { row := productNormalRow, standIns := [], harness := (true, "57e082d706f373a9179b0100aa5b860257ccb480c5215f8016097ceefe3a6432"), looks := false }, kinds := [], alts := [], laidByText := true, laidKinds := [.data, .pinned], laidTests := true, laidLooks := .later }
def ProductNormalCardSaid : Prop := Claim7.holds Tryd.pinned (.plain (OpenSpec.ofChange productNormalSpec)) productNormalCard

/-- THE TIED CARD OF 'priceofficelaw09.ProductDiffers'. -/
def productDiffersCard : Claim7 := { stood := { row := productDiffersRow, standIns := [], harness := (true, "57e082d706f373a9179b0100aa5b860257ccb480c5215f8016097ceefe3a6432"), looks := false }, kinds := [], alts := [], laidByText := true, laidKinds := [.data, .pinned], laidTests := true, laidLooks := .later }
def ProductDiffersCardSaid : Prop := Claim7.holds Tryd.pinned (.plain (OpenSpec.ofChange productDiffersSpec)) productDiffersCard

/-- THE TIED CARD OF 'priceofficelaw18.RelaunchValid'. -/
def relaunchValidCard : Claim7 := { stood := { row := relaunchValidRow, standIns := [], harness := (true, "57e082d706f373a9179b0100aa5b860257ccb480c5215f8016097ceefe3a6432"), looks := false }, kinds := [], alts := [], laidByText := true, laidKinds := [.data, .pinned], laidTests := true, laidLooks := .later }
def RelaunchValidCardSaid : Prop := Claim7.holds Tryd.pinned (.plain (OpenSpec.ofChange relaunchValidSpec)) relaunchValidCard

/-- THE TIED CARD OF 'priceofficelaw18.RelaunchMany'. -/
def relaunchManyCard : Claim7 := { stood := { row := relaunchManyRow, standIns := [], harness := (true, "57e082d706f373a9179b0100aa5b860257ccb480c5215f8016097ceefe3a6432"), looks := false }, kinds := [], alts := [], laidByText := true, laidKinds := [.data, .pinned], laidTests := true, laidLooks := .later }
def RelaunchManyCardSaid : Prop := Claim7.holds Tryd.pinned (.plain (OpenSpec.ofChange relaunchManySpec)) relaunchManyCard

/-- THE TIED CARD OF 'priceofficelaw18.RelaunchLines'. -/
def relaunchLinesCard : Claim7 := { stood := { row := relaunchLinesRow, standIns := [], harness := (true, "57e082d706f373a9179b0100aa5b860257ccb480c5215f8016097ceefe3a6432"), looks := false }, kinds := [], alts := [], laidByText := true, laidKinds := [.data, .pinned], laidTests := true, laidLooks := .later }
def RelaunchLinesCardSaid : Prop := Claim7.holds Tryd.pinned (.plain (OpenSpec.ofChange relaunchLinesSpec)) relaunchLinesCard

/-- THE TIED CARD OF 'priceofficelaw09.ProductKeys'. -/
def productKeysCard : Claim7 := { stood := { row := productKeysRow, standIns := [], harness := (true, "57e082d706f373a9179b0100aa5b860257ccb480c5215f8016097ceefe3a6432"), looks := false }, kinds := [], alts := [], laidByText := true, laidKinds := [.data, .pinned], laidTests := true, laidLooks := .later }
def ProductKeysCardSaid : Prop := Claim7.holds Tryd.pinned (.plain (OpenSpec.ofChange productKeysSpec)) productKeysCard

/-- THE SECOND FORM's CARD OF 'priceofficelaw09.ProductDigits'. -/
def productDigitsUptoCard : Claim7 := { stood := { row := productDigitsUptoRow, standIns := [], harness := (true, "57e082d706f373a9179b0100aa5b860257ccb480c5215f8016097ceefe3a6432"), looks := false }, kinds := [], alts := [], laidByText := true, laidKinds := [.data, .pinned], laidTests := true, laidLooks := .later }
def ProductDigitsUptoCardSaid : Prop := Claim7.holds Tryd.pinned (.plain (OpenSpec.upto productDigitsSpec)) productDigitsUptoCard

/-- THE SECOND FORM's CARD OF 'priceofficelaw09.ProductChanges'. -/
def productChangesUptoCard : Claim7 := { stood := { row := productChangesUptoRow, standIns := [], harness := (true, "57e082d706f373a9179b0100aa5b860257ccb480c5215f8016097ceefe3a6432"), looks := false }, kinds := [], alts := [], laidByText := true, laidKinds := [.data, .pinned], laidTests := true, laidLooks := .later }
def ProductChangesUptoCardSaid : Prop := Claim7.holds Tryd.pinned (.plain (OpenSpec.upto productChangesSpec)) productChangesUptoCard

/-- THE SECOND FORM's CARD OF 'priceofficelaw18.RelaunchRenames'. -/
def relaunchRenamesUptoCard : Claim7 := { stood := { row := relaunchRenamesUptoRow, standIns := [], harness := (true, "57e082d706f373a9179b0100aa5b860257ccb480c5215f8016097ceefe3a6432"), looks := false }, kinds := [], alts := [], laidByText := true, laidKinds := [.data, .pinned], laidTests := true, laidLooks := .later }
def RelaunchRenamesUptoCardSaid : Prop := Claim7.holds Tryd.pinned (.plain (OpenSpec.upto relaunchRenamesSpec)) relaunchRenamesUptoCard

/-- THE SECOND FORM's CARD OF 'priceofficelaw18.RelaunchKeeps'. -/
def relaunchKeepsUptoCard : Claim7 := { stood := { row := relaunchKeepsUptoRow, standIns := [], harness := (true, "57e082d706f373a9179b0100aa5b860257ccb480c5215f8016097ceefe3a6432"), looks := false }, kinds := [], alts := [], laidByText := true, laidKinds := [.data, .pinned], laidTests := true, laidLooks := .later }
def RelaunchKeepsUptoCardSaid : Prop := Claim7.holds Tryd.pinned (.plain (OpenSpec.upto relaunchKeepsSpec)) relaunchKeepsUptoCard

/-- THE SECOND FORM's CARD OF 'priceofficelaw09.ProductApart'. -/
def productApartUptoCard : Claim7 := { stood := { row := productApartUptoRow, standIns := [], harness := (true, "57e082d706f373a9179b0100aa5b860257ccb480c5215f8016097ceefe3a6432"), looks := false }, kinds := [], alts := [], laidByText := true, laidKinds := [.data, .pinned], laidTests := true, laidLooks := .later }
def ProductApartUptoCardSaid : Prop := Claim7.holds Tryd.pinned (.plain (OpenSpec.upto productApartSpec)) productApartUptoCard

/-- THE SECOND FORM's CARD OF 'priceofficelaw09.ProductNormal'. -/
def productNormalUptoCard : Claim7 := { stood := { row := productNormalUptoRow, standIns := [], harness := (true, "57e082d706f373a9179b0100aa5b860257ccb480c5215f8016097ceefe3a6432"), looks := false }, kinds := [], alts := [], laidByText := true, laidKinds := [.data, .pinned], laidTests := true, laidLooks := .later }
def ProductNormalUptoCardSaid : Prop := Claim7.holds Tryd.pinned (.plain (OpenSpec.upto productNormalSpec)) productNormalUptoCard

/-- THE SECOND FORM's CARD OF 'priceofficelaw09.ProductDiffers'. -/
def productDiffersUptoCard : Claim7 := { stood := { row := productDiffersUptoRow, standIns := [], harness := (true, "57e082d706f373a9179b0100aa5b860257ccb480c5215f8016097ceefe3a6432"), looks := false }, kinds := [], alts := [], laidByText := true, laidKinds := [.data, .pinned], laidTests := true, laidLooks := .later }
def ProductDiffersUptoCardSaid : Prop := Claim7.holds Tryd.pinned (.plain (OpenSpec.upto productDiffersSpec)) productDiffersUptoCard

/-- THE SECOND FORM's CARD OF 'priceofficelaw18.RelaunchValid'. -/
def relaunchValidUptoCard : Claim7 := { stood := { row := relaunchValidUptoRow, standIns := [], harness := (true, "57e082d706f373a9179b0100aa5b860257ccb480c5215f8016097ceefe3a6432"), looks := false }, kinds := [], alts := [], laidByText := true, laidKinds := [.data, .pinned], laidTests := true, laidLooks := .later }
def RelaunchValidUptoCardSaid : Prop := Claim7.holds Tryd.pinned (.plain (OpenSpec.upto relaunchValidSpec)) relaunchValidUptoCard

/-- THE SECOND FORM's CARD OF 'priceofficelaw18.RelaunchMany'. -/
def relaunchManyUptoCard : Claim7 := { stood := { row := relaunchManyUptoRow, standIns := [], harness := (true, "57e082d706f373a9179b0100aa5b860257ccb480c5215f8016097ceefe3a6432"), looks := false }, kinds := [], alts := [], laidByText := true, laidKinds := [.data, .pinned], laidTests := true, laidLooks := .later }
def RelaunchManyUptoCardSaid : Prop := Claim7.holds Tryd.pinned (.plain (OpenSpec.upto relaunchManySpec)) relaunchManyUptoCard

/-- THE SECOND FORM's CARD OF 'priceofficelaw18.RelaunchLines'. -/
def relaunchLinesUptoCard : Claim7 := { stood := { row := relaunchLinesUptoRow, standIns := [], harness := (true, "57e082d706f373a9179b0100aa5b860257ccb480c5215f8016097ceefe3a6432"), looks := false }, kinds := [], alts := [], laidByText := true, laidKinds := [.data, .pinned], laidTests := true, laidLooks := .later }
def RelaunchLinesUptoCardSaid : Prop := Claim7.holds Tryd.pinned (.plain (OpenSpec.upto relaunchLinesSpec)) relaunchLinesUptoCard

/-- THE SECOND FORM's CARD OF 'priceofficelaw09.ProductKeys'. -/
def productKeysUptoCard : Claim7 := { stood := { row := productKeysUptoRow, standIns := [], harness := (true, "57e082d706f373a9179b0100aa5b860257ccb480c5215f8016097ceefe3a6432"), looks := false }, kinds := [], alts := [], laidByText := true, laidKinds := [.data, .pinned], laidTests := true, laidLooks := .later }
def ProductKeysUptoCardSaid : Prop := Claim7.holds Tryd.pinned (.plain (OpenSpec.upto productKeysSpec)) productKeysUptoCard
end Rows
end Go.Proofs.YtjgbadopladmdaaDoor
